/-
Plain laws: a screen's sizes stay, whatever runs.
-/
import Derived.Test.YtecipnjloenndaaScrD
set_option linter.unusedVariables false
set_option linter.unusedSimpArgs false
set_option maxRecDepth 100000
namespace Go.Proofs.Ytecipnjloenndaa.G
open Go Go.RowKit Go.Proofs.Ytecipnjloenndaa.SX

theorem SI.size {a b : api_Size} {s : screen_Screen} (h : SI a b s) : s.f_p.f_size = if s.f_which = 0 then a else b := h.p.size
theorem sizes_l1 {a b : api_Size} (xss : List (List UInt8)) (hx : xss.length ≤ 8) : ∀ (n : Nat) (i : Int) (s : screen_Screen), SI a b s → 0 ≤ i → i ≤ (xss.length : Int) → (xss.length : Int) - i < n →
    law18_ScreenSizes_l1 1000 a b xss n (i, parts s) = some (.inr true) ∨ ∃ s', SI a b s' ∧ law18_ScreenSizes_l1 1000 a b xss n (i, parts s) = some (.inl (parts s')) := by
  intro n
  induction n with
  | zero => intro i s h h0 h1 h2; omega
  | succ n ih =>
    intro i s h h0 h1 h2
    unfold law18_ScreenSizes_l1
    by_cases hl : i < (xss.length : Int)
    · obtain ⟨y, e1, e2⟩ := ix_ok h0 hl
      simp only [parts, hl, if_true, e1, Option.bind_some, eta2]
      by_cases hy : (y.length : Int) > 200
      · left; rw [if_pos hy]
      · rw [if_neg hy]
        obtain ⟨s', r, e, g, _⟩ := run_ok h (xs := y) (by omega)
        have hw : w64 (i + 1) = i + 1 := w64_in (by omega)
        have hsz := g.size
        have G := ih (i + 1) s' g (by omega) (by omega) (by omega)
        simp only [parts] at G
        unfold screen_Screen_Plane_m plane_Plane_Size_m screen_Screen_Other_m
        simp only [e, Option.bind_some, ite_some, hw]
        have key : ∀ (z : Bool × Bool × Bool × Bool × Bool × Int × Int), z.1 = false → (if z.1 = true then some (Sum.inr false) else (law18_ScreenSizes_l1 1000 a b xss n) (i + 1, s'.f_sizes_0.f_Rows, s'.f_sizes_0.f_Cols, s'.f_sizes_1.f_Rows, s'.f_sizes_1.f_Cols, s'.f_which, s'.f_p.f_size.f_Rows, s'.f_p.f_size.f_Cols, s'.f_p.f_cells, s'.f_p.f_cursor)) = law18_ScreenSizes_l1 1000 a b xss n (i + 1, s'.f_sizes_0.f_Rows, s'.f_sizes_0.f_Cols, s'.f_sizes_1.f_Rows, s'.f_sizes_1.f_Cols, s'.f_which, s'.f_p.f_size.f_Rows, s'.f_p.f_size.f_Cols, s'.f_p.f_cells, s'.f_p.f_cursor) := by
          intro z hz; rw [hz]; simp
        have hb : ∀ (x : Option (Bool × Bool × Bool × Bool × Bool × Int × Int)) z, x = some z → z.1 = false → (x.bind fun (z : Bool × Bool × Bool × Bool × Bool × Int × Int) => (if z.1 = true then some (Sum.inr false) else (law18_ScreenSizes_l1 1000 a b xss n) (i + 1, s'.f_sizes_0.f_Rows, s'.f_sizes_0.f_Cols, s'.f_sizes_1.f_Rows, s'.f_sizes_1.f_Cols, s'.f_which, s'.f_p.f_size.f_Rows, s'.f_p.f_size.f_Cols, s'.f_p.f_cells, s'.f_p.f_cursor))) = law18_ScreenSizes_l1 1000 a b xss n (i + 1, s'.f_sizes_0.f_Rows, s'.f_sizes_0.f_Cols, s'.f_sizes_1.f_Rows, s'.f_sizes_1.f_Cols, s'.f_which, s'.f_p.f_size.f_Rows, s'.f_p.f_size.f_Cols, s'.f_p.f_cells, s'.f_p.f_cursor) := by
          intro x z hx hz; rw [hx, Option.bind_some]; exact key z hz
        rw [key]
        · exact G
        · rcases g.w with w | w
          · rw [w] at hsz ⊢
            simp only [if_true] at hsz
            simp [hsz]
          · rw [w] at hsz ⊢
            have : ¬ (1 : Int) = 0 := by omega
            simp only [this, if_false] at hsz
            simp [hsz]
    · right
      exact ⟨s, h, by simp only [parts, hl, if_false]⟩
theorem sizes_l2 {p : plane_Plane} {s : api_Size} (h : PI s p) (o : screen_Screen × screen_Result) (ho : o.1.f_p = p) (hd : ∀ j, 0 ≤ j → j < nn s → (cellAt p j).f_Start = true → (cellAt p j).f_Byte &&& 1 = 0) : ∀ (n : Nat) (i : Int), 0 ≤ i → i ≤ nn s → nn s - i < n → law18_ScreenSizes_l2 1000 o (nn s) n i = some (.inl ()) := by
  have hle := h.sz.le
  intro n
  induction n with
  | zero => intro i h0 h1 h2; omega
  | succ n ih =>
    intro i h0 h1 h2
    unfold law18_ScreenSizes_l2
    by_cases hi : i < nn s
    · have hw : w64 (i + 1) = i + 1 := w64_in (by omega)
      unfold screen_Screen_Plane_m
      simp only [hi, if_true, Option.bind_some, hw, ho, at_eq, ite_some]
      have : (if (cellAt p i).f_Start = true then decide ((cellAt p i).f_Byte &&& 1 = 1) else false) = false := by
        split
        · next hst => rw [hd i h0 hi hst]; rfl
        · rfl
      rw [this, if_neg (by simp)]
      exact ih (i + 1) (by omega) (by omega) (by omega)
    · rw [if_neg hi]
theorem sizes_l3 (xss : List (List UInt8)) (hx : xss.length ≤ 8) : True := trivial
/-- Paints nothing. -/
theorem paint_none {s : api_Size} {p : plane_Plane} (h : PI s p) {x : Int} (h0 : 0 ≤ x) (h1 : x < nn s) : paint_Paint_m 1000 p [] x = some (p, x, 0, 0) := by
  unfold paint_Paint_m plane_Plane_Len_m
  have a1 : ¬ x < 0 := by omega
  have a2 : ¬ x ≥ nn s := by omega
  simp only [a1, if_false, Option.bind_some, h.len, a2, decide_false, Bool.false_eq_true]
  rfl
theorem run_unmark {a b : api_Size} {s : screen_Screen} (h : SI a b s) : ∃ s' r, screen_Screen_Run_m 1000 s [241, 1] = some (s', r) ∧ SI a b s' ∧ ∀ j, 0 ≤ j → j < nn (if s'.f_which = 0 then a else b) → (cellAt s'.f_p j).f_Start = true → (cellAt s'.f_p j).f_Byte &&& 1 = 0 := by
  unfold screen_Screen_Run_m
  have e1 : command_Parse_m 1000 [241, 1] = some (⟨241, 1, [], 0, []⟩, 0) := by kernel_rfl
  rw [e1]
  simp only [Option.bind_some, ne_eq, not_true, if_false]
  show ∃ s' r, (screen_Screen_Do_f_m 1000 (grp_screen_Screen_Do_mR 1000 999) s ⟨241, 1, [], 0, []⟩).bind _ = some (s', r) ∧ _
  unfold screen_Screen_Do_f_m command_Clean_m plane_Plane_Cursor_m screen_Screen_write_m
  obtain ⟨q, k, e, hq, hc, hd⟩ := unmark_ok h.p
  have hcl : decide ((1 : UInt8) &&& 1 ≠ 0) = true := by decide
  simp only [hcl, if_true, e, Option.bind_some, eta, paint_none hq hq.cur.1 hq.cur.2]
  refine ⟨_, _, rfl, ⟨h.za, h.zb, h.s0, h.s1, h.w, hq⟩, hd⟩
theorem run_alt {a b : api_Size} {s : screen_Screen} (h : SI a b s) : ∃ s' r, screen_Screen_Run_m 1000 s [126, 0] = some (s', r) ∧ SI a b s' ∧ r.f_Err = 0 ∧ s'.f_which = 1 := by
  unfold screen_Screen_Run_m
  have e1 : command_Parse_m 1000 [126, 0] = some (⟨126, 0, [], 0, []⟩, 0) := by kernel_rfl
  rw [e1]
  simp only [Option.bind_some, ne_eq, not_true, if_false]
  show ∃ s' r, (screen_Screen_Do_f_m 1000 (grp_screen_Screen_Do_mR 1000 999) s ⟨126, 0, [], 0, []⟩).bind _ = some (s', r) ∧ _
  unfold screen_Screen_Do_f_m screen_Screen_erase_m screen_Screen_write_m
  have k1 : ¬ (126 : UInt8) = 241 := by decide
  have k2 : ¬ (126 : UInt8) = 245 := by decide
  have h1 : ¬ (1 : Int) = 0 := by omega
  simp only [k1, k2, if_false, if_true, renew_ok h (.inr rfl), Option.bind_some, h1, paint_none (new_PI h.zb) (x := 0) (by omega) (by have := h.zb.pos; omega)]
  exact ⟨_, _, rfl, renew_SI h (.inr rfl), rfl, rfl⟩
theorem run_esize {a b : api_Size} {s : screen_Screen} (h : SI a b s) (o : UInt8) (e1 : command_Parse_m 1000 [243, 0, 4, 3, o] = some (⟨243, 0, [], 0, [⟨3, o, ⟨0, 0, [], 0, []⟩⟩]⟩, 0)) : ∃ s' r, screen_Screen_Run_m 1000 s [243, 0, 4, 3, o] = some (s', r) ∧ SI a b s' ∧ r.f_Err = 0 ∧ s'.f_which = if o = 0 then 0 else 1 := by
  unfold screen_Screen_Run_m
  rw [e1]
  simp only [Option.bind_some, ne_eq, not_true, if_false]
  show ∃ s' r, (screen_Screen_Do_f_m 1000 (grp_screen_Screen_Do_mR 1000 999) s ⟨243, 0, [], 0, [⟨3, o, ⟨0, 0, [], 0, []⟩⟩]⟩).bind _ = some (s', r) ∧ _
  unfold screen_Screen_Do_f_m screen_Screen_fields_m screen_Screen_fields_l1 screen_Screen_field_m screen_size_m
  have k1 : ¬ (243 : UInt8) = 241 := by decide
  have k2 : ¬ (243 : UInt8) = 245 := by decide
  have k3 : ¬ (243 : UInt8) = 126 := by decide
  have k4 : ¬ (243 : UInt8) = 111 := by decide
  have k5 : ¬ (243 : UInt8) = 242 := by decide
  have k6 : ¬ (243 : UInt8) = 246 := by decide
  have k7 : ¬ (243 : UInt8) = 110 := by decide
  have k8 : ¬ (3 : UInt8) = 1 := by decide
  have hix : ix [(⟨3, o, ⟨0, 0, [], 0, []⟩⟩ : command_Field)] 0 = some ⟨3, o, ⟨0, 0, [], 0, []⟩⟩ := rfl
  have hk : (if o = 0 then (0 : Int) else 1) = 0 ∨ (if o = 0 then (0 : Int) else 1) = 1 := by split <;> simp
  have hw : w64 (0 + 1) = 1 := by rfl
  simp only [k1, k2, k3, k4, k5, k6, k7, k8, if_false, if_true, ite_some, Option.bind_some, decide_false, Bool.false_eq_true, List.length_singleton, show (0 : Int) < ((1 : Nat) : Int) from by decide, hix, eta2, renew_ok h hk, ne_eq, not_true]
  refine ⟨_, _, rfl, renew_SI h hk, rfl, rfl⟩
theorem parse0 : command_Parse_m 1000 [243, 0, 4, 3, 0] = some (⟨243, 0, [], 0, [⟨3, 0, ⟨0, 0, [], 0, []⟩⟩]⟩, 0) := by kernel_rfl
theorem parse128 : command_Parse_m 1000 [243, 0, 4, 3, 128] = some (⟨243, 0, [], 0, [⟨3, 128, ⟨0, 0, [], 0, []⟩⟩]⟩, 0) := by kernel_rfl
theorem ScreenSizes_true (a b : api_Size) (xss : List (List UInt8)) : law18_ScreenSizes_m 1000 a b xss = some true := by
  unfold law18_ScreenSizes_m
  rw [alive_ok]
  simp only [Option.bind_some, Bool.not_true, Bool.false_eq_true, if_false]
  rcases made_ok a b with ⟨ha, hb, r, e⟩ | ⟨r, e⟩
  · rw [e]
    simp only [Option.bind_some, onE]
    by_cases hx : (xss.length : Int) > 8
    · rw [if_pos hx]
    · rw [if_neg hx]
      rcases sizes_l1 xss (by omega) 1000 0 (fresh a b) (fresh_SI ha hb) (by omega) (by omega) (by omega) with g | ⟨s', g, e2⟩
      · simp only [parts] at g
        rw [g]; rfl
      · simp only [parts] at e2
        rw [e2]
        obtain ⟨s1, r1, e3, g1, hd⟩ := run_unmark g
        obtain ⟨s2, r2, e4, g2, z2, w2⟩ := run_alt g1
        obtain ⟨s3, r3, e5, g3, z3, w3⟩ := run_esize g2 0 parse0
        obtain ⟨s4, r4, e6, g4, z4, w4⟩ := run_esize g3 128 parse128
        unfold screen_Screen_Plane_m plane_Plane_Len_m screen_Screen_Other_m plane_Plane_Size_m
        have l2 := sizes_l2 g1.p (s1, r1) rfl hd 1000 0 (by omega) (by have := g1.p.sz.pos; omega) (by have := g1.p.sz.le; omega)
        have n1 : ¬ (128 : UInt8) = 0 := by decide
        have n2 : ¬ (1 : Int) = 0 := by omega
        have n3 : ¬ (0 : Int) = 1 := by omega
        rw [if_neg n1] at w4
        rw [if_pos rfl] at w3
        have hs4 := g4.size
        rw [w4, if_neg n2] at hs4
        simp only [onS, Option.bind_some, eta2, e3, g1.p.len, l2, e4, e5, e6, z2, z3, z4, w2, w3, w4, if_true, decide_true, n3, decide_false, Bool.not_false, hs4]
  · rw [e]; rfl
end Go.Proofs.Ytecipnjloenndaa.G
