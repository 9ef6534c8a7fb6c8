/-
Plain laws: the keyboard's locks.
-/
import Derived.Test.YtecipnjloenndaaGreatDoorKbK
set_option linter.unusedVariables false
set_option linter.unusedSimpArgs false
set_option maxRecDepth 100000
namespace Go.Proofs.YtecipnjloenndaaGreatDoor.G
open Go Go.RowKit Go.Proofs.YtecipnjloenndaaGreatDoor.SX

theorem locks_l1 {a b : api_Size} (ops : List law22_Op) (hl : ops.length ≤ 20) (hb : ∀ o ∈ ops, o.f_B.length ≤ 150) : ∀ (n : Nat) (i : Int) (k : keyboard_Keyboard), KI a b k → 0 ≤ i → i ≤ (ops.length : Int) → (ops.length : Int) - i < n →
    ∃ r, law22_KeyboardLocks_l1 1000 ops n (i, kparts k) = some (.inl r) := by
  intro n
  induction n with
  | zero => intro i k h h0 h1 h2; omega
  | succ n ih =>
    intro i k h h0 h1 h2
    unfold law22_KeyboardLocks_l1
    by_cases hi : i < (ops.length : Int)
    · obtain ⟨y, e, ey⟩ := ix_ok h0 hi
      have hy := hb y (List.mem_of_getElem? ey)
      have hw : w64 (i + 1) = i + 1 := w64_in (by omega)
      have G : ∀ k', KI a b k' → _ := fun k' hk' => ih (i + 1) k' hk' (by omega) (by omega) (by omega)
      simp only [kparts] at G
      simp only [kparts, hi, if_true, e, Option.bind_some, hw, eta2, etaK, etaL, eta]
      by_cases c1 : y.f_Host = 1
      · rw [if_pos c1]
        obtain ⟨s', r, e1, g1, _⟩ := run_ok h (xs := y.f_B) (by omega)
        obtain ⟨k', e2, g2⟩ := host_ok (k := ⟨s', k.f_l, k.f_insert, k.f_last⟩) g1 r
        simp only [e1, e2, Option.bind_some]
        exact G k' g2
      rw [if_neg c1]
      by_cases c2 : y.f_Host = 2
      · rw [if_pos c2]
        obtain ⟨k', e2, g2⟩ := open_lock h
        unfold keyboard_Keyboard_Lock_m
        simp only [e2, Option.bind_some]
        exact G k' g2
      rw [if_neg c2]
      by_cases c3 : y.f_Host = 3
      · rw [if_pos c3]
        obtain ⟨k', e2, g2⟩ := shut_lock h
        unfold keyboard_Keyboard_Lock_m
        simp only [e2, Option.bind_some]
        exact G k' g2
      rw [if_neg c3]
      unfold screen_Screen_Plane_m keyboard_Keyboard_Lock_m lock_Lock_May_v0_m lock_Lock_Turns_v0_m keyboard_Keyboard_Inserting_m keyboard_Keyboard_Last_m
      obtain ⟨k', sent, er, e2, g, f1, f2, f3⟩ := press_ok h y.f_Key
      obtain ⟨t, et⟩ := att_ok y.f_Key.f_Byte
      simp only [Option.bind_some, pclone_ok h.p, e2, ite_some, et]
      have same : k'.f_s.f_p = k.f_s.f_p → plane_Same_m 1000 k.f_s.f_p k'.f_s.f_p = some true := fun hs => by rw [hs]; exact same_self h.p
      have first : ∀ (X : Option Bool), X = some false → (X.bind fun (s105 : Bool) => (if s105 = true then some (Sum.inr false) else (some (if sent = true then if (if k'.f_l.f_state ≠ 1 then (40 : Int) else 0) ≠ 40 then true else if k'.f_last ≠ y.f_Key.f_Byte then true else if (!t) = true then true else decide (er ≠ 0) else false)).bind fun (s124 : Bool) => (if s124 = true then some (Sum.inr false) else (law22_KeyboardLocks_l1 1000 ops n) (i + 1, kparts k')))) = law22_KeyboardLocks_l1 1000 ops n (i + 1, kparts k') := by
        intro X hX
        rw [hX, Option.bind_some, if_neg (by simp), Option.bind_some]
        cases sent with
        | false => rfl
        | true =>
          obtain ⟨q1, q2, q3, q4, q5⟩ := f3 rfl
          rw [et] at q4
          cases q4
          have n1 : ¬ ((if k'.f_l.f_state ≠ 1 then (40 : Int) else 0) ≠ 40) := by rw [if_pos q1]; omega
          have n2 : ¬ (er ≠ 0) := by omega
          simp only [if_true, n1, if_false, q2, ne_eq, not_true, Bool.not_true, Bool.false_eq_true, n2, decide_false]
      simp only [kparts, Option.bind_some] at first
      rw [first]
      · exact G k' g
      · by_cases ck : y.f_Key.f_Kind ≠ 16
        · rw [if_pos ck]
          by_cases cm : k.f_l.f_state ≠ 1
          · obtain ⟨q1, q2, q3⟩ := f1 ck cm
            subst q1
            have hs := same rfl
            simp only [cm, ne_eq, not_false_eq_true, if_true, q3, not_true, if_false, hs, Option.bind_some, Bool.not_true]
            rfl
          · have hz : (if k.f_l.f_state ≠ 1 then (40 : Int) else 0) = 0 := if_neg cm
            rw [hz]
            simp only [ne_eq, not_true, if_false]
            by_cases ce : er ≠ 0
            · have hs := same (f2 ck ce)
              rw [if_pos ce]
              simp only [hs, Option.bind_some, Bool.not_true]
            · rw [if_neg ce]
        · rw [if_neg ck]
    · exact ⟨kparts k, by simp only [kparts, hi, if_false]⟩
theorem KeyboardLocks_true (a b : api_Size) (ops : List law22_Op) (hl : ops.length ≤ 9223372036854775807) : law22_KeyboardLocks_m 1000 a b ops = some true := by
  unfold law22_KeyboardLocks_m
  rw [alive22]
  simp only [Option.bind_some, Bool.not_true, Bool.false_eq_true, if_false]
  rcases made22 a b with ⟨ha, hb, r, e⟩ | ⟨r, e⟩
  · rw [e]
    obtain ⟨t, et, ht⟩ := few_ok ops hl
    simp only [Option.bind_some, onE, et]
    cases t with
    | false => rfl
    | true =>
      obtain ⟨h1, h2⟩ := ht rfl
      obtain ⟨r, e2⟩ := locks_l1 (a := a) (b := b) ops h1 h2 1000 0 (freshK a b) (fresh_SI ha hb) (by omega) (by omega) (by omega)
      simp only [kparts] at e2
      simp only [Bool.not_true, Bool.false_eq_true, if_false, e2, Option.bind_some, onS]
  · rw [e]; rfl
end Go.Proofs.YtecipnjloenndaaGreatDoor.G
