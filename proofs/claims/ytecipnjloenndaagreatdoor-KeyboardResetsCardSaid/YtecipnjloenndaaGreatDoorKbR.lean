/-
Plain laws: the keyboard's resets.
-/
import Derived.Test.YtecipnjloenndaaGreatDoorKbK
set_option linter.unusedVariables false
set_option linter.unusedSimpArgs false
set_option maxRecDepth 100000
namespace Go.Proofs.YtecipnjloenndaaGreatDoor.G
open Go Go.RowKit Go.Proofs.YtecipnjloenndaaGreatDoor.SX

theorem bind_onS {A R : Type} {X : Option (Sum A R)} {F : A → Option R} {Q : A → Prop} {W : R → Prop} (hX : ∃ s, X = some (.inl s) ∧ Q s) (hF : ∀ s, Q s → ∃ r, F s = some r ∧ W r) : ∃ r, X.bind (onS F) = some r ∧ W r := by
  obtain ⟨s, rfl, hs⟩ := hX
  exact hF s hs
theorem resets_l1 {a b : api_Size} (ops : List law22_Op) (hl : ops.length ≤ 20) (hb : ∀ o ∈ ops, o.f_B.length ≤ 150) : ∀ (n : Nat) (i : Int) (k : keyboard_Keyboard), KI a b k → 0 ≤ i → i ≤ (ops.length : Int) → (ops.length : Int) - i < n →
    ∃ r, law22_KeyboardResets_l1 1000 ops n (i, kparts k) = some r ∧ ∃ q, r = .inl q := by
  intro n
  induction n with
  | zero => intro i k h h0 h1 h2; omega
  | succ n ih =>
    intro i k h h0 h1 h2
    unfold law22_KeyboardResets_l1
    by_cases hi : i < (ops.length : Int)
    · obtain ⟨y, e, ey⟩ := ix_ok h0 hi
      have hy := hb y (List.mem_of_getElem? ey)
      have hw : w64 (i + 1) = i + 1 := w64_in (by omega)
      have G : ∀ k', KI a b k' → _ := fun k' hk' => ih (i + 1) k' hk' (by omega) (by omega) (by omega)
      simp only [kparts] at G
      simp only [kparts, hi, if_true, e, Option.bind_some, hw, eta2, etaK, etaL, eta]
      refine bind_onS (Q := fun s => ∃ k', s = kparts k' ∧ KI a b k') ?_ ?_
      · by_cases c1 : y.f_Host = 1
        · rw [if_pos c1]
          obtain ⟨s', r, e1, g1, _⟩ := run_ok h (xs := y.f_B) (by omega)
          obtain ⟨k', e2, g2⟩ := host_ok (k := ⟨s', k.f_l, k.f_insert, k.f_last⟩) g1 r
          simp only [e1, e2, Option.bind_some]
          exact ⟨_, rfl, k', rfl, g2⟩
        rw [if_neg c1]
        by_cases c2 : y.f_Host = 2
        · rw [if_pos c2]
          obtain ⟨k', e2, g2⟩ := open_lock h
          unfold keyboard_Keyboard_Lock_m
          simp only [e2, Option.bind_some]
          exact ⟨_, rfl, k', rfl, g2⟩
        rw [if_neg c2]
        by_cases c3 : y.f_Host = 3
        · rw [if_pos c3]
          obtain ⟨k', e2, g2⟩ := shut_lock h
          unfold keyboard_Keyboard_Lock_m
          simp only [e2, Option.bind_some]
          exact ⟨_, rfl, k', rfl, g2⟩
        rw [if_neg c3]
        obtain ⟨k', sent, er, e2, g, f1, f2, f3⟩ := press_ok h y.f_Key
        unfold keyboard_Keyboard_Last_m keyboard_Keyboard_Inserting_m
        simp only [e2, Option.bind_some, ite_some]
        have : (if sent = true then if k'.f_last ≠ y.f_Key.f_Byte then true else k'.f_insert else false) = false := by
          cases sent with
          | false => rfl
          | true =>
            obtain ⟨_, q2, q3, _⟩ := f3 rfl
            simp [q2, q3]
        rw [this, if_neg (by simp)]
        exact ⟨_, rfl, k', rfl, g⟩
      · rintro _ ⟨k, rfl, h⟩
        unfold screen_Screen_Plane_m keyboard_Keyboard_Lock_m lock_Lock_State_v0_m keyboard_Keyboard_Inserting_m keyboard_Keyboard_Last_m
        simp only [kparts, Option.bind_some, eta2, etaK, eta, pclone_ok h.p, press_reset k ⟨16, 0⟩ rfl, same_self h.p, ite_some]
        have hz : ¬ ((0 : Int) ≠ 0) := by omega
        have hpi : ∀ (l : lock_Lock) (ins : Bool), keyboard_Keyboard_Press_m 1000 ⟨k.f_s, l, ins, k.f_last⟩ ⟨13, 0⟩ = if l.f_state = 1 then some (⟨k.f_s, l, !ins, k.f_last⟩, false, 0) else some (⟨k.f_s, l, ins, k.f_last⟩, false, 40) := fun l ins => press_insert (k := ⟨k.f_s, l, ins, k.f_last⟩) h 0
        by_cases h3 : k.f_l.f_state = 3
        · have hu : unlock k.f_l = ⟨1, 0, w64 (k.f_l.f_turns + 1)⟩ := by unfold unlock; rw [if_pos h3]
          have n1 : ¬ ((1 : Int) ≠ 1) := by omega
          have n2 : (1 : Int) ≠ 3 := by omega
          simp only [hu, h3, hz, if_false, Bool.false_eq_true, Bool.not_true, ne_eq, not_true, n2, not_false_eq_true, if_true, decide_false, hpi, Option.bind_some, decide_true, Bool.not_false]
          exact G ⟨k.f_s, ⟨1, 0, w64 (k.f_l.f_turns + 1)⟩, false, k.f_last⟩ h
        · have hu : unlock k.f_l = k.f_l := by unfold unlock; rw [if_neg h3]
          by_cases h1 : k.f_l.f_state = 1
          · have n2 : (1 : Int) ≠ 3 := by omega
            simp only [hu, h1, hz, if_false, Bool.false_eq_true, Bool.not_true, ne_eq, not_true, n2, not_false_eq_true, if_true, decide_false, hpi, Option.bind_some, decide_true, Bool.not_false]
            have := G ⟨k.f_s, k.f_l, false, k.f_last⟩ h
            simp only [h1] at this
            exact this
          · have n40 : ¬ (40 : Int) = 0 := by omega
            simp only [hu, h3, h1, hz, if_false, Bool.false_eq_true, Bool.not_true, ne_eq, not_true, not_false_eq_true, if_true, decide_false, hpi, Option.bind_some, n40]
            exact G ⟨k.f_s, k.f_l, false, k.f_last⟩ h
    · exact ⟨.inl (kparts k), by simp only [kparts, hi, if_false], kparts k, rfl⟩
theorem KeyboardResets_true (a b : api_Size) (ops : List law22_Op) (hl : ops.length ≤ 9223372036854775807) : law22_KeyboardResets_m 1000 a b ops = some true := by
  unfold law22_KeyboardResets_m
  rw [alive22]
  simp only [Option.bind_some, Bool.not_true, Bool.false_eq_true, if_false]
  rcases made22 a b with ⟨ha, hb, r, e⟩ | ⟨r, e⟩
  · rw [e]
    obtain ⟨t, et, ht⟩ := few_ok ops hl
    simp only [Option.bind_some, onE, et]
    cases t with
    | false => rfl
    | true =>
      obtain ⟨h1, h2⟩ := ht rfl
      obtain ⟨_, e2, r, rfl⟩ := resets_l1 (a := a) (b := b) ops h1 h2 1000 0 (freshK a b) (fresh_SI ha hb) (by omega) (by omega) (by omega)
      simp only [kparts] at e2
      simp only [Bool.not_true, Bool.false_eq_true, if_false, e2, Option.bind_some, onS]
  · rw [e]; rfl
end Go.Proofs.YtecipnjloenndaaGreatDoor.G
