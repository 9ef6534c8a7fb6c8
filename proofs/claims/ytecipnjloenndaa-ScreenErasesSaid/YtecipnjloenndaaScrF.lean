/-
Plain laws: a write that erases forgets what was; reading changes nothing; an error tells nothing else.
-/
import Derived.Test.YtecipnjloenndaaScrE
set_option linter.unusedVariables false
set_option linter.unusedSimpArgs false
set_option maxRecDepth 100000
namespace Go.Proofs.Ytecipnjloenndaa.G
open Go Go.RowKit Go.Proofs.Ytecipnjloenndaa.SX

theorem eq_l1 (xs : List api_Cell) (hx : xs.length ≤ 60) : ∀ (n : Nat) (i : Int), 0 ≤ i → i ≤ (xs.length : Int) → (xs.length : Int) - i < n → slices_Equal_api_Cell_api_Cell_v0_l1 1000 xs xs n i = some (.inl ()) := by
  intro n
  induction n with
  | zero => intro i h0 h1 h2; omega
  | succ n ih =>
    intro i h0 h1 h2
    unfold slices_Equal_api_Cell_api_Cell_v0_l1
    by_cases hi : i < (xs.length : Int)
    · obtain ⟨y, e1, _⟩ := ix_ok h0 hi
      have hw : w64 (i + 1) = i + 1 := w64_in (by omega)
      simp only [hi, if_true, e1, Option.bind_some, hw, decide_true, Bool.not_true, Bool.false_eq_true, if_false]
      exact ih (i + 1) (by omega) (by omega) (by omega)
    · rw [if_neg hi]
theorem same_self {s : api_Size} {p : plane_Plane} (h : PI s p) : plane_Same_m 1000 p p = some true := by
  have hl : p.f_cells.length ≤ 60 := by have := h.len; have := h.sz.le; omega
  unfold plane_Same_m slices_Equal_api_Cell_api_Cell_v0_m
  simp only [if_true, ne_eq, not_true, if_false, eq_l1 _ hl 1000 0 (by omega) (by omega) (by omega), Option.bind_some, onS]
theorem clone_ok {a b : api_Size} {s : screen_Screen} (h : SI a b s) : screen_Screen_Clone_m s = some s := by
  have hl : s.f_p.f_cells.length ≤ 60 := by have := h.p.len; have := h.p.sz.le; omega
  unfold screen_Screen_Clone_m plane_Plane_Clone_m slices_Clone_api_Cell_api_Cell_v0_m
  rw [app_ok (by simp; omega)]
  rfl
theorem run_rm (s : screen_Screen) : screen_Screen_Run_m 1000 s [246] = some (s, ⟨246, false, false, 0⟩) := by
  unfold screen_Screen_Run_m
  have e1 : command_Parse_m 1000 [246] = some (⟨246, 0, [], 0, []⟩, 0) := by kernel_rfl
  rw [e1]
  rfl
theorem find245 : ∃ f, command_find_m 1000 245 = some (f, true) ∧ f.f_kind = 245 := by
  cases h : command_find_m 1000 245 with
  | none =>
    have h1 : (command_find_m 1000 245).isSome = true := by kernel_rfl
    rw [h] at h1
    cases h1
  | some r =>
    have h1 : (command_find_m 1000 245).map (fun r => (r.1.f_kind, r.2)) = some (245, true) := by kernel_rfl
    rw [h] at h1
    obtain ⟨f, ok⟩ := r
    simp only [Option.map_some, Option.some.injEq, Prod.mk.injEq] at h1
    exact ⟨f, by rw [h1.2], h1.1⟩
theorem parse_ew {xs : List UInt8} (hx : xs.length ≤ 200) (h0 : xs ≠ []) : ∃ c, command_Parse_m 1000 (245 :: xs) = some (c, 0) ∧ CmdOK c ∧ c.f_Kind = 245 := by
  obtain ⟨c, e, h1, h2⟩ := cparse_ok (b := 245 :: xs) (by simp; omega)
  have hl : 1 ≤ xs.length := by cases xs with | nil => exact absurd rfl h0 | cons _ _ => simp
  obtain ⟨f, hf, hk⟩ := find245
  have h1' := h1
  have e1 : command_Parse_m 1000 (245 :: xs) = command_Parse_f_m 1000 (grp_command_Parse_mR 1000 999) (245 :: xs) := rfl
  rw [e1] at h1'
  unfold command_Parse_f_m at h1'
  have hix : ix ((245 : UInt8) :: xs) 0 = some 245 := rfl
  obtain ⟨y1, hy1, _⟩ := ix_ok (xs := (245 : UInt8) :: xs) (i := 1) (by omega) (by simp; omega)
  have hlen : ((((245 : UInt8) :: xs).length : Nat) : Int) = (xs.length : Int) + 1 := by simp
  have n0 : ¬ ((((245 : UInt8) :: xs).length : Nat) : Int) = 0 := by omega
  have n2 : ¬ ((((245 : UInt8) :: xs).length : Nat) : Int) < 2 := by omega
  rw [if_neg n0, hix, Option.bind_some, hf, Option.bind_some] at h1'
  simp only [Bool.not_true, Bool.false_eq_true, if_false, writes_ok, hk, Option.bind_some, n2, decide_false, true_or, or_true, decide_true, if_true, hy1] at h1'
  rw [sub_ok (by omega) (by omega) (by omega), Option.bind_some] at h1'
  obtain ⟨os, rd, e', p1, p2, p3⟩ := parse_ok (b := ((((245 : UInt8) :: xs).take ((((245 : UInt8) :: xs).length : Nat) : Int).toNat).drop (Int.toNat 2))) (by simp; omega)
  rw [p1] at h1'
  simp only [Option.bind_some, Option.some.injEq, Prod.mk.injEq] at h1'
  refine ⟨c, ?_, h2, ?_⟩
  · rw [h1, ← h1'.2]
  · rw [← h1'.1]
theorem run_ew {a b : api_Size} {s : screen_Screen} (h : SI a b s) {xs : List UInt8} (hx : xs.length ≤ 200) (h0 : xs ≠ []) : ∃ s' r, screen_Screen_Run_m 1000 s (245 :: xs) = some (s', r) ∧ screen_Screen_Run_m 1000 (fresh a b) (245 :: xs) = some (s', r) ∧ SI a b s' ∧ s'.f_which = 0 := by
  obtain ⟨c, e1, hc, hk⟩ := parse_ew hx h0
  have key : ∀ t, SI a b t → screen_Screen_Run_m 1000 t (245 :: xs) = (screen_Screen_erase_m 1000 t c 0).bind fun o => some (o.1, o.2) := by
    intro t ht
    unfold screen_Screen_Run_m
    rw [e1]
    show (screen_Screen_Do_f_m 1000 (grp_screen_Screen_Do_mR 1000 999) t c).bind _ = _
    unfold screen_Screen_Do_f_m
    have k1 : ¬ (245 : UInt8) = 241 := by decide
    simp only [hk, k1, if_false, if_true, Option.bind_assoc, Option.bind_some]
  have hf := fresh_SI h.za h.zb
  obtain ⟨s', r, g, g1, g2, _⟩ := erase_ok h c hc.toCmdIn (k := 0) (.inl rfl)
  have hg : screen_Screen_erase_m 1000 (fresh a b) c 0 = some (s', r) := by
    rw [← g]
    unfold screen_Screen_erase_m
    rw [renew_ok h (.inl rfl), renew_ok hf (.inl rfl)]
  exact ⟨s', r, by rw [key s h, g]; rfl, by rw [key _ hf, hg]; rfl, g1, g2⟩
theorem run_e0 (s : screen_Screen) : screen_Screen_Run_m 1000 s [245] = some (s, ⟨0, false, false, 20⟩) := by
  unfold screen_Screen_Run_m
  have e1 : command_Parse_m 1000 [245] = some (⟨0, 0, [], 0, []⟩, 20) := by kernel_rfl
  rw [e1]
  rfl
theorem erases_l1 {a b : api_Size} (xss : List (List UInt8)) (hx : xss.length ≤ 8) : ∀ (n : Nat) (i : Int) (s : screen_Screen), SI a b s → 0 ≤ i → i ≤ (xss.length : Int) → (xss.length : Int) - i < n →
    law18_ScreenErases_l1 1000 xss n (i, parts s) = some (.inr true) ∨ ∃ s', SI a b s' ∧ law18_ScreenErases_l1 1000 xss n (i, parts s) = some (.inl (parts s')) := by
  intro n
  induction n with
  | zero => intro i s h h0 h1 h2; omega
  | succ n ih =>
    intro i s h h0 h1 h2
    unfold law18_ScreenErases_l1
    by_cases hl : i < (xss.length : Int)
    · obtain ⟨y, e1, e2⟩ := ix_ok h0 hl
      simp only [parts, hl, if_true, e1, Option.bind_some, eta2]
      by_cases hy : (y.length : Int) > 200
      · left; rw [if_pos hy]
      · rw [if_neg hy]
        obtain ⟨s', r, e, g, hr⟩ := run_ok h (xs := y) (by omega)
        have hw : w64 (i + 1) = i + 1 := w64_in (by omega)
        have G := ih (i + 1) s' g (by omega) (by omega) (by omega)
        simp only [parts] at G
        simp only [e, Option.bind_some, ite_some, hw]
        have : (if r.f_Err ≠ 0 then if r.f_Reply ≠ 0 then true else if r.f_Restore = true then true else r.f_Alarm else false) = false := by
          by_cases hz : r.f_Err ≠ 0
          · rw [if_pos hz, hr hz]; rfl
          · rw [if_neg hz]
        rw [this, if_neg (by simp)]
        exact G
    · right
      exact ⟨s, h, by simp only [parts, hl, if_false]⟩
theorem ScreenErases_true (a b : api_Size) (xss : List (List UInt8)) (zs : List UInt8) : law18_ScreenErases_m 1000 a b xss zs = some true := by
  unfold law18_ScreenErases_m
  rw [alive_ok]
  simp only [Option.bind_some, Bool.not_true, Bool.false_eq_true, if_false]
  rcases made_ok a b with ⟨ha, hb, r, e⟩ | ⟨r, e⟩
  · rw [e]
    simp only [Option.bind_some, onE, ite_some]
    by_cases hx : (xss.length : Int) > 8
    · rw [if_pos hx, if_pos rfl]
    · rw [if_neg hx]
      by_cases hz : (zs.length : Int) > 200
      · simp only [hz, decide_true, if_true]
      · simp only [hz, decide_false, if_false, Bool.false_eq_true]
        rcases erases_l1 xss (by omega) 1000 0 (fresh a b) (fresh_SI ha hb) (by omega) (by omega) (by omega) with g | ⟨s', g, e2⟩
        · simp only [parts] at g
          rw [g]; rfl
        · simp only [parts] at e2
          rw [e2]
          unfold screen_Screen_Plane_m screen_Screen_Other_m
          have r246 : ¬ ((246 : UInt8) ≠ 246) := by decide
          simp only [onS, Option.bind_some, eta2, clone_ok g, run_rm, ne_eq, not_true, if_false, same_self g.p, Bool.not_true, Bool.false_eq_true, screen_new ha hb, onE, app_ok (xs := [(245 : UInt8)]) (ys := zs) (by simp; omega), List.singleton_append]
          by_cases h0 : zs = []
          · subst h0
            simp only [run_e0, Option.bind_some, decide_true, Bool.not_true, Bool.false_eq_true, if_false, List.length_nil, Int.ofNat_zero, if_true]
          · obtain ⟨s2, r2, g1, g2, g3, g4⟩ := run_ew g (xs := zs) (by omega) h0
            have hl : ¬ (zs.length : Int) = 0 := by
              have := List.length_pos_iff.2 h0
              omega
            have n3 : ¬ (0 : Int) = 1 := by omega
            simp only [g1, g2, Option.bind_some, decide_true, Bool.not_true, Bool.false_eq_true, if_false, hl, same_self g3.p, if_true, g4, n3, decide_false, Bool.not_false]
  · rw [e]; rfl
end Go.Proofs.Ytecipnjloenndaa.G
