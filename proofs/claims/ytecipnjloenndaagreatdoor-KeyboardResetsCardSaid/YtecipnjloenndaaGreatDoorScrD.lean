/-
Plain laws of a screen's run: fields in fields, and the screen a law begins with.
-/
import Derived.Test.YtecipnjloenndaaGreatDoorScrC
set_option linter.unusedVariables false
set_option linter.unusedSimpArgs false
set_option maxRecDepth 100000
namespace Go.Proofs.YtecipnjloenndaaGreatDoor.G
open Go Go.RowKit Go.Proofs.YtecipnjloenndaaGreatDoor.SX

/-- The parts of a screen, as the loops carry them. -/
def parts (s : screen_Screen) : Int × Int × Int × Int × Int × Int × Int × (List api_Cell) × Int := (s.f_sizes_0.f_Rows, s.f_sizes_0.f_Cols, s.f_sizes_1.f_Rows, s.f_sizes_1.f_Cols, s.f_which, s.f_p.f_size.f_Rows, s.f_p.f_size.f_Cols, s.f_p.f_cells, s.f_p.f_cursor)
theorem field_ok {a b : api_Size} {R : screen_Screen → command_Command → Option (screen_Screen × screen_Result)} {s : screen_Screen} (h : SI a b s) (f : command_Field) (hR : ∃ s' r, R s f.f_Inner = some (s', r) ∧ SI a b s' ∧ ResOK r) : ∃ s' r, screen_Screen_field_m R s f = some (s', r) ∧ SI a b s' ∧ ResOK r := by
  unfold screen_Screen_field_m screen_size_m
  by_cases h1 : f.f_ID = 1
  · rw [if_pos h1]; exact ⟨_, _, rfl, h, fun h => absurd rfl h⟩
  · rw [if_neg h1]
    by_cases h2 : f.f_ID = 3
    · rw [if_pos h2, ite_some, Option.bind_some]
      have hk : (if f.f_Op = 0 then (0 : Int) else 1) = 0 ∨ (if f.f_Op = 0 then (0 : Int) else 1) = 1 := by split <;> simp
      rw [renew_ok h hk, Option.bind_some]
      exact ⟨_, _, rfl, renew_SI h hk, fun h => absurd rfl h⟩
    · rw [if_neg h2]
      obtain ⟨s', r, e, g1, g2⟩ := hR
      rw [e]
      refine ⟨_, _, rfl, g1, ?_⟩
      intro hne
      have := g2 hne
      rw [this]
theorem fieldsS_l1 {a b : api_Size} {R : screen_Screen → command_Command → Option (screen_Screen × screen_Result)} (c : command_Command) (hn : c.f_Fields.length ≤ 700) (hR : ∀ s, SI a b s → ∀ f ∈ c.f_Fields, ∃ s' r, R s f.f_Inner = some (s', r) ∧ SI a b s' ∧ ResOK r) : ∀ (n : Nat) (i : Int) (rep : UInt8) (rs al : Bool) (s : screen_Screen), SI a b s → 0 ≤ i → i ≤ (c.f_Fields.length : Int) → (c.f_Fields.length : Int) - i < n →
    (∃ rep' rs' al' s', SI a b s' ∧ screen_Screen_fields_l1 1000 c R n (i, rep, rs, al, parts s) = some (.inl (rep', rs', al', parts s'))) ∨ (∃ s' r, SI a b s' ∧ ResOK r ∧ screen_Screen_fields_l1 1000 c R n (i, rep, rs, al, parts s) = some (.inr (s', r))) := by
  intro n
  induction n with
  | zero => intro i rep rs al s h h0 h1 h2; omega
  | succ n ih =>
    intro i rep rs al s h h0 h1 h2
    unfold screen_Screen_fields_l1
    by_cases hl : i < (c.f_Fields.length : Int)
    · obtain ⟨y, e1, e2⟩ := ix_ok h0 hl
      have hm : y ∈ c.f_Fields := List.mem_of_getElem? e2
      obtain ⟨s', r, e, g1, g2⟩ := field_ok h y (hR s h y hm)
      have e' : screen_Screen_field_m R (⟨(⟨s.f_sizes_0.f_Rows, s.f_sizes_0.f_Cols⟩ : api_Size), (⟨s.f_sizes_1.f_Rows, s.f_sizes_1.f_Cols⟩ : api_Size), s.f_which, (⟨(⟨s.f_p.f_size.f_Rows, s.f_p.f_size.f_Cols⟩ : api_Size), s.f_p.f_cells, s.f_p.f_cursor⟩ : plane_Plane)⟩ : screen_Screen) y = some (s', r) := e
      simp only [parts, hl, if_true, e1, Option.bind_some, e', ite_some]
      by_cases hz : r.f_Err ≠ 0
      · rw [if_pos hz]
        exact .inr ⟨_, _, g1, fun _ => rfl, rfl⟩
      · rw [if_neg hz]
        have hw : w64 (i + 1) = i + 1 := w64_in (by omega)
        rw [hw]
        have G : ∀ rep' rs' al', _ := fun rep' rs' al' => ih (i + 1) rep' rs' al' s' g1 (by omega) (by omega) (by omega)
        simp only [parts] at G
        split <;> split <;> exact G _ _ _
    · left
      refine ⟨rep, rs, al, s, h, ?_⟩
      simp only [parts, hl, if_false]
theorem fieldsS_ok {a b : api_Size} {R : screen_Screen → command_Command → Option (screen_Screen × screen_Result)} {s : screen_Screen} (h : SI a b s) (c : command_Command) (hn : c.f_Fields.length ≤ 700) (hR : ∀ s, SI a b s → ∀ f ∈ c.f_Fields, ∃ s' r, R s f.f_Inner = some (s', r) ∧ SI a b s' ∧ ResOK r) : ∃ s' r, screen_Screen_fields_m 1000 R s c = some (s', r) ∧ SI a b s' ∧ ResOK r := by
  unfold screen_Screen_fields_m
  rcases fieldsS_l1 c hn hR 1000 0 0 false false s h (by omega) (by omega) (by omega) with ⟨rep, rs, al, s', g, e⟩ | ⟨s', r, g1, g2, e⟩
  · have e' := e
    simp only [parts] at e'
    rw [e']
    simp only [Option.bind_some, onS]
    by_cases hz : c.f_Err ≠ 0
    · rw [if_pos hz]; exact ⟨_, _, rfl, g, fun _ => rfl⟩
    · rw [if_neg hz]; exact ⟨_, _, rfl, g, fun h => absurd rfl h⟩
  · have e' := e
    simp only [parts] at e'
    rw [e']
    exact ⟨_, _, rfl, g1, g2⟩
/-- Does a command, fields too. -/
theorem doF_ok {a b : api_Size} (R : screen_Screen → command_Command → Option (screen_Screen × screen_Result)) {s : screen_Screen} (h : SI a b s) (c : command_Command) (hc : CmdOK c) (hR : ∀ s, SI a b s → ∀ f ∈ c.f_Fields, ∃ s' r, R s f.f_Inner = some (s', r) ∧ SI a b s' ∧ ResOK r) : ∃ s' r, screen_Screen_Do_f_m 1000 R s c = some (s', r) ∧ SI a b s' ∧ ResOK r := by
  by_cases hk : c.f_Kind = 243
  · unfold screen_Screen_Do_f_m
    obtain ⟨s', r, e, g1, g2⟩ := fieldsS_ok h c hc.fn hR
    simp only [hk, e, ite_some, Option.bind_some]
    exact ⟨s', r, rfl, g1, g2⟩
  · exact do1_ok R h c hc.toCmdIn hk
theorem Do_ok {a b : api_Size} {s : screen_Screen} (h : SI a b s) (c : command_Command) (hc : CmdOK c) : ∃ s' r, screen_Screen_Do_m 1000 s c = some (s', r) ∧ SI a b s' ∧ ResOK r := by
  show ∃ s' r, screen_Screen_Do_f_m 1000 (grp_screen_Screen_Do_mR 1000 999) s c = some (s', r) ∧ SI a b s' ∧ ResOK r
  refine doF_ok _ h c hc fun s hs f hf => ?_
  have := hc.fs f hf
  exact do1_ok (grp_screen_Screen_Do_mR 1000 998) hs f.f_Inner this.1 this.2
theorem run_ok {a b : api_Size} {s : screen_Screen} (h : SI a b s) {xs : List UInt8} (hb : xs.length ≤ 700) : ∃ s' r, screen_Screen_Run_m 1000 s xs = some (s', r) ∧ SI a b s' ∧ ResOK r := by
  unfold screen_Screen_Run_m
  obtain ⟨c, e, h1, h2⟩ := cparse_ok hb
  rw [h1]
  simp only [Option.bind_some]
  by_cases hz : e ≠ 0
  · rw [if_pos hz]; exact ⟨_, _, rfl, h, fun _ => rfl⟩
  · rw [if_neg hz]
    obtain ⟨s', r, e, g1, g2⟩ := Do_ok h c h2
    rw [e]; exact ⟨_, _, rfl, g1, g2⟩
theorem eta2 (s : screen_Screen) : (⟨(⟨s.f_sizes_0.f_Rows, s.f_sizes_0.f_Cols⟩ : api_Size), (⟨s.f_sizes_1.f_Rows, s.f_sizes_1.f_Cols⟩ : api_Size), s.f_which, (⟨(⟨s.f_p.f_size.f_Rows, s.f_p.f_size.f_Cols⟩ : api_Size), s.f_p.f_cells, s.f_p.f_cursor⟩ : plane_Plane)⟩ : screen_Screen) = s := rfl

/-! ### Made -/
theorem ref_cells (s : api_Size) : ref02_Cells_m s = addr_Cells_m s := by unfold ref02_Cells_m addr_Cells_m; rfl
theorem cells_case (s : api_Size) : addr_Cells_m s = some 0 ∨ (1 ≤ s.f_Rows ∧ s.f_Rows ≤ 43 ∧ 1 ≤ s.f_Cols ∧ s.f_Cols ≤ 132 ∧ 1 ≤ nn s ∧ nn s ≤ 4096 ∧ addr_Cells_m s = some (nn s) ∧ w64 (s.f_Rows * s.f_Cols) = nn s) := by
  unfold addr_Cells_m
  simp only [ite_some]
  by_cases a1 : s.f_Rows < 1
  · left; simp [a1]
  by_cases a2 : s.f_Rows > 43
  · left; simp [a1, a2]
  by_cases a3 : s.f_Cols < 1
  · left; simp [a1, a2, a3]
  by_cases a4 : s.f_Cols > 132
  · left; simp [a1, a2, a3, a4]
  have p1 : s.f_Rows * s.f_Cols ≤ 43 * 132 := Int.mul_le_mul (by omega) (by omega) (by omega) (by omega)
  have p2 : 1 * 1 ≤ s.f_Rows * s.f_Cols := Int.mul_le_mul (by omega) (by omega) (by omega) (by omega)
  have hw : w64 (s.f_Rows * s.f_Cols) = s.f_Rows * s.f_Cols := w64_in (by omega)
  rw [hw]
  by_cases a5 : s.f_Rows * s.f_Cols > 4096
  · left; simp [a1, a2, a3, a4, a5]
  · right
    refine ⟨by omega, by omega, by omega, by omega, ?_, ?_, ?_, rfl⟩
    · show 1 ≤ s.f_Rows * s.f_Cols; omega
    · show s.f_Rows * s.f_Cols ≤ 4096; omega
    · simp [a1, a2, a3, a4, a5, nn]
theorem refnew_ok {s : api_Size} (h1 : 1 ≤ nn s) (h2 : nn s ≤ 4096) (h3 : addr_Cells_m s = some (nn s)) : ref14_New_m s = some (⟨s, List.replicate (nn s).toNat zc, 0⟩, 0) := by
  unfold ref14_New_m
  have : nn s ≠ 0 := by omega
  rw [ref_cells]
  simp only [h3, Option.bind_some, this, if_false, mk_ok (z := (⟨0, false, false, 0, 0⟩ : api_Cell)) (show 0 ≤ nn s by omega) (show nn s ≤ 68719476736 by omega)]
  rfl
def fresh (a b : api_Size) : screen_Screen := ⟨a, b, 0, ⟨a, List.replicate (nn a).toNat zc, 0⟩⟩
theorem fresh_SI {a b : api_Size} (ha : Sz a) (hb : Sz b) : SI a b (fresh a b) := ⟨ha, hb, rfl, rfl, .inl rfl, new_PI ha⟩
theorem screen_new {a b : api_Size} (ha : Sz a) (hb : Sz b) : screen_New_m a b = some (.inl (fresh a b)) := by
  have h1 := ha.pos; have h2 := hb.pos
  have e1 : nn a ≠ 0 := by omega
  have e2 : nn b ≠ 0 := by omega
  unfold screen_New_m screen_Screen_Clear_v0_m screen_Screen_renew_v0_m
  simp only [cells_ok ha, cells_ok hb, Option.bind_some, e1, e2, if_false, if_true, decide_false, Bool.false_eq_true, new_ok ha, onE]
  rfl
theorem eq_l1 (xs : List api_Cell) (hx : xs.length ≤ 60) : ∀ (n : Nat) (i : Int), 0 ≤ i → i ≤ (xs.length : Int) → (xs.length : Int) - i < n → slices_Equal_api_Cell_api_Cell_v0_l1 1000 xs xs n i = some (.inl ()) := by
  intro n
  induction n with
  | zero => intro i h0 h1 h2; omega
  | succ n ih =>
    intro i h0 h1 h2
    unfold slices_Equal_api_Cell_api_Cell_v0_l1
    by_cases hi : i < (xs.length : Int)
    · obtain ⟨y, e1, _⟩ := ix_ok h0 hi
      have hw : w64 (i + 1) = i + 1 := w64_in (by omega)
      simp only [hi, if_true, e1, Option.bind_some, hw, decide_true, Bool.not_true, Bool.false_eq_true, if_false]
      exact ih (i + 1) (by omega) (by omega) (by omega)
    · rw [if_neg hi]
theorem same_self {s : api_Size} {p : plane_Plane} (h : PI s p) : plane_Same_m 1000 p p = some true := by
  have hl : p.f_cells.length ≤ 60 := by have := h.len; have := h.sz.le; omega
  unfold plane_Same_m slices_Equal_api_Cell_api_Cell_v0_m
  simp only [if_true, ne_eq, not_true, if_false, eq_l1 _ hl 1000 0 (by omega) (by omega) (by omega), Option.bind_some, onS]
theorem pclone_ok {s : api_Size} {p : plane_Plane} (h : PI s p) : plane_Plane_Clone_m p = some p := by
  have hl : p.f_cells.length ≤ 60 := by have := h.len; have := h.sz.le; omega
  unfold plane_Plane_Clone_m slices_Clone_api_Cell_api_Cell_v0_m
  rw [app_ok (by simp; omega)]
  rfl
end Go.Proofs.YtecipnjloenndaaGreatDoor.G
