/-
Plain laws of orders that are done on a plane, and of commands that are done on a screen: each is done, and the screen keeps its shape.
-/
import Derived.Test.YtecipnjloenndaaGreatDoorScrB
set_option linter.unusedVariables false
set_option linter.unusedSimpArgs false
set_option maxRecDepth 100000
namespace Go.Proofs.YtecipnjloenndaaGreatDoor.G
open Go Go.RowKit Go.Proofs.YtecipnjloenndaaGreatDoor.SX

/-! ### The brush -/
structure BI (s : api_Size) (b : paint_brush) : Prop where
  p : PI s b.f_p
  at_ : 0 ≤ b.f_at ∧ b.f_at < nn s
theorem lay_ok {s : api_Size} {b : paint_brush} (h : BI s b) (c : api_Cell) : ∃ b', paint_brush_lay_m b c = some b' ∧ BI s b' := by
  unfold paint_brush_lay_m paint_brush_next_m plane_Plane_Size_m
  rw [set_ok h.p h.at_.1 h.at_.2, Option.bind_some, Option.bind_some]
  have h2 := h.p.setAt b.f_at c
  simp only [h2.size, move_ok h.p.sz, Option.bind_some]
  exact ⟨_, rfl, h2, mod_in h.p.sz _⟩
theorem data_l1' {s : api_Size} (o : api_Order) (hl : o.f_Data.length ≤ 700) : ∀ (n : Nat) (i : Int) (b : paint_brush), BI s b → 0 ≤ i → i ≤ (o.f_Data.length : Int) → (o.f_Data.length : Int) - i < n →
    ∃ b', paint_brush_data_l1 1000 o n (i, b.f_at, b.f_look.f_Byte, b.f_look.f_GE, b.f_look.f_Start, b.f_look.f_Light, b.f_look.f_Color, b.f_laid, b.f_p.f_size.f_Rows, b.f_p.f_size.f_Cols, b.f_p.f_cells, b.f_p.f_cursor) =
      some (b'.f_at, b'.f_look.f_Byte, b'.f_look.f_GE, b'.f_look.f_Start, b'.f_look.f_Light, b'.f_look.f_Color, b'.f_laid, b'.f_p.f_size.f_Rows, b'.f_p.f_size.f_Cols, b'.f_p.f_cells, b'.f_p.f_cursor) ∧ BI s b' := by
  intro n
  induction n with
  | zero => intro i b h h0 h1 h2; omega
  | succ n ih =>
    intro i b h h0 h1 h2
    unfold paint_brush_data_l1
    by_cases hi : i < (o.f_Data.length : Int)
    · obtain ⟨y, hy, _⟩ := ix_ok (xs := o.f_Data) h0 hi
      obtain ⟨b', e, hb'⟩ := lay_ok h ⟨y, false, false, b.f_look.f_Light, b.f_look.f_Color⟩
      have e' : paint_brush_lay_m ⟨⟨⟨b.f_p.f_size.f_Rows, b.f_p.f_size.f_Cols⟩, b.f_p.f_cells, b.f_p.f_cursor⟩, b.f_at, ⟨b.f_look.f_Byte, b.f_look.f_GE, b.f_look.f_Start, b.f_look.f_Light, b.f_look.f_Color⟩, b.f_laid⟩ ⟨y, false, false, b.f_look.f_Light, b.f_look.f_Color⟩ = some b' := e
      have hw : w64 (i + 1) = i + 1 := w64_in (by omega)
      simp only [hi, if_true, hy, Option.bind_some, paint_brush_char_m, e', hw]
      exact ih (i + 1) b' hb' (by omega) (by omega) (by omega)
    · rw [if_neg hi]; exact ⟨b, rfl, h⟩
theorem dress_l1 (ps : List api_Pair) (hl : ps.length ≤ 255) : ∀ (n : Nat) (i : Int) (x : UInt8 × UInt8 × UInt8), 0 ≤ i → i ≤ (ps.length : Int) → (ps.length : Int) - i < n → ∃ r, attr_Dress_l1 1000 ps n (i, x) = some r := by
  intro n
  induction n with
  | zero => intro i b h h0 h1; omega
  | succ n ih =>
    intro i x h0 h1 h2
    unfold attr_Dress_l1
    by_cases hi : i < (ps.length : Int)
    · obtain ⟨y, hy, _⟩ := ix_ok (xs := ps) h0 hi
      have hw : w64 (i + 1) = i + 1 := w64_in (by omega)
      simp only [hi, if_true, hy, Option.bind_some, hw]
      repeat' split
      all_goals exact ih (i + 1) _ (by omega) (by omega) (by omega)
    · rw [if_neg hi]; exact ⟨_, rfl⟩
theorem dress_ok (c : api_Cell) (ps : List api_Pair) (hl : ps.length ≤ 255) : ∃ r, attr_Dress_m 1000 c ps = some r := by
  unfold attr_Dress_m
  obtain ⟨r, e⟩ := dress_l1 ps hl 1000 0 (c.f_Byte, c.f_Light, c.f_Color) (by omega) (by omega) (by omega)
  rw [e]; exact ⟨_, rfl⟩
theorem jump_ok {s : api_Size} {b : paint_brush} (h : BI s b) (o : api_Order) : ∃ b' e, paint_brush_jump_m b o = some (b', e) ∧ BI s b' := by
  unfold paint_brush_jump_m plane_Plane_Len_m
  by_cases h1 : o.f_Addr < 0
  · simp only [h1, if_true, Option.bind_some]; exact ⟨_, _, rfl, h⟩
  · by_cases h2 : o.f_Addr ≥ (b.f_p.f_cells.length : Int)
    · simp only [h1, if_false, Option.bind_some, h2, decide_true, if_true]; exact ⟨_, _, rfl, h⟩
    · simp only [h1, if_false, Option.bind_some, h2, decide_false, Bool.false_eq_true]
      exact ⟨_, _, rfl, h.p, by have := h.p.len; show 0 ≤ o.f_Addr ∧ o.f_Addr < nn s; omega⟩
theorem rest_l1 {s : api_Size} : ∀ (n : Nat) (i : Int) (p : plane_Plane), PI s p → 0 ≤ i → i ≤ nn s → nn s - i < n →
    ∃ q, paint_brush_rest_l1 1000 n (i, p.f_size.f_Rows, p.f_size.f_Cols, p.f_cells, p.f_cursor) = some (q.f_size.f_Rows, q.f_size.f_Cols, q.f_cells, q.f_cursor) ∧ PI s q := by
  intro n
  induction n with
  | zero => intro i p h h0 h1 h2; omega
  | succ n ih =>
    intro i p h h0 h1 h2
    have hle := h.sz.le
    unfold paint_brush_rest_l1 plane_Plane_Len_m
    simp only [Option.bind_some, eta, h.len]
    by_cases hi : i < nn s
    · have hw : w64 (i + 1) = i + 1 := w64_in (by omega)
      simp only [hi, if_true, at_eq, Option.bind_some]
      cases hst : (cellAt p i).f_Start with
      | false =>
        simp only [Bool.not_false, if_true, set_ok h h0 hi, Option.bind_some, hw]
        exact ih (i + 1) _ (h.setAt i _) (by omega) (by omega) (by omega)
      | true =>
        simp only [Bool.not_true, Bool.false_eq_true, if_false]
        exact ⟨p, rfl, h⟩
    · simp only [hi, if_false, Option.bind_some, Bool.false_eq_true]
      exact ⟨p, rfl, h⟩
theorem rest_ok {s : api_Size} {b : paint_brush} (h : BI s b) : ∃ b', paint_brush_rest_m 1000 b = some b' ∧ BI s b' := by
  unfold paint_brush_rest_m
  obtain ⟨q, e, hq⟩ := rest_l1 1000 b.f_at b.f_p h.p h.at_.1 (by have := h.at_.2; omega) (by have := h.p.sz.le; have := h.at_.1; omega)
  rw [e, Option.bind_some]
  exact ⟨_, rfl, hq, h.at_⟩
theorem tab_l1 {s : api_Size} (b : paint_brush) (h : BI s b) : ∀ (n : Nat) (i : Int), 0 ≤ i → i ≤ nn s → nn s - i < n →
    ∃ r, paint_brush_tab_l1 1000 (b.f_at, b.f_look.f_Byte, b.f_look.f_GE, b.f_look.f_Start, b.f_look.f_Light, b.f_look.f_Color, b.f_laid, b.f_p.f_size.f_Rows, b.f_p.f_size.f_Cols, b.f_p.f_cells, b.f_p.f_cursor) n i = some r ∧ ∀ x, r = .inr x → BI s x.1 := by
  intro n
  induction n with
  | zero => intro i h0 h1 h2; omega
  | succ n ih =>
    intro i h0 h1 h2
    have hle := h.p.sz.le
    unfold paint_brush_tab_l1 plane_Plane_Len_m
    simp only [Option.bind_some, eta, h.p.len]
    by_cases hi : i < nn s
    · have hw : w64 (i + 1) = i + 1 := w64_in (by omega)
      have hnext := ih (i + 1) (by omega) (by omega) (by omega)
      simp only [hi, if_true, at_eq, Option.bind_some, attr_Protected_m, plane_Plane_Size_m, h.p.size, move_ok h.p.sz, hw, ite_some]
      generalize (if (cellAt b.f_p i).f_Start = true then (!decide ((cellAt b.f_p i).f_Byte &&& 32 ≠ 0)) else false) = z
      cases z with
      | true => exact ⟨_, rfl, fun x e => by cases e; exact ⟨⟨h.p.sz, h.p.size, h.p.len, h.p.cur⟩, mod_in h.p.sz _⟩⟩
      | false => rw [if_neg (by simp)]; simpa only [h.p.size] using hnext
    · rw [if_neg hi]; exact ⟨_, rfl, fun x e => by cases e⟩
theorem tab_ok {s : api_Size} {b : paint_brush} (h : BI s b) (o : api_Order) : ∃ b' e, paint_brush_tab_m 1000 b o = some (b', e) ∧ BI s b' := by
  unfold paint_brush_tab_m
  have : ∃ b', BI s b' ∧ (if b.f_laid = true then (paint_brush_rest_m 1000 b).bind fun o3 => some (o3.f_at, o3.f_look.f_Byte, o3.f_look.f_GE, o3.f_look.f_Start, o3.f_look.f_Light, o3.f_look.f_Color, o3.f_laid, o3.f_p.f_size.f_Rows, o3.f_p.f_size.f_Cols, o3.f_p.f_cells, o3.f_p.f_cursor) else some (b.f_at, b.f_look.f_Byte, b.f_look.f_GE, b.f_look.f_Start, b.f_look.f_Light, b.f_look.f_Color, b.f_laid, b.f_p.f_size.f_Rows, b.f_p.f_size.f_Cols, b.f_p.f_cells, b.f_p.f_cursor)) =
      some (b'.f_at, b'.f_look.f_Byte, b'.f_look.f_GE, b'.f_look.f_Start, b'.f_look.f_Light, b'.f_look.f_Color, b'.f_laid, b'.f_p.f_size.f_Rows, b'.f_p.f_size.f_Cols, b'.f_p.f_cells, b'.f_p.f_cursor) := by
    split
    · obtain ⟨b', e, hb⟩ := rest_ok h
      exact ⟨b', hb, by rw [e]; rfl⟩
    · exact ⟨b, h, rfl⟩
  obtain ⟨b', hb, e⟩ := this
  rw [e, Option.bind_some]
  obtain ⟨r, e2, hr⟩ := tab_l1 b' hb 1000 b'.f_at hb.at_.1 (by have := hb.at_.2; omega) (by have := hb.p.sz.le; have := hb.at_.1; omega)
  rw [e2, Option.bind_some]
  cases r with
  | inr x => exact ⟨x.1, x.2, rfl, hr x rfl⟩
  | inl u => exact ⟨_, _, rfl, ⟨hb.p.sz, hb.p.size, hb.p.len, hb.p.cur⟩, by show 0 ≤ (0 : Int) ∧ (0 : Int) < nn s; have := hb.p.sz.pos; omega⟩
/-! From one place on, up to another one: how many rounds. -/
theorem mod_succ {s : api_Size} (h : Sz s) {x : Int} (h0 : 0 ≤ x) (h1 : x < nn s) : (x + 1) % nn s = if x + 1 = nn s then 0 else x + 1 := by
  split
  · rename_i e; rw [e]; exact Int.emod_self
  · exact Int.emod_eq_of_lt (by omega) (by omega)
/-- So many places lie ahead. -/
def ahead (s : api_Size) (x to : Int) : Int := if x < to then to - x else nn s - x + to
theorem ahead_next {s : api_Size} (h : Sz s) {x to : Int} (h0 : 0 ≤ x) (h1 : x < nn s) (t0 : 0 ≤ to) (t1 : to < nn s) (hne : (x + 1) % nn s ≠ to) : ahead s ((x + 1) % nn s) to = ahead s x to - 1 := by
  rw [mod_succ h h0 h1] at hne ⊢
  unfold ahead
  split at hne <;> split <;> split <;> (try split) <;> omega
theorem ahead_pos {s : api_Size} (h : Sz s) {x to : Int} (h0 : 0 ≤ x) (h1 : x < nn s) (t0 : 0 ≤ to) (t1 : to < nn s) : 1 ≤ ahead s x to ∧ ahead s x to ≤ nn s := by
  unfold ahead
  split <;> omega
theorem fill_l1 {s : api_Size} (h : Sz s) (c : api_Cell) (o : Int × Int × Int × Int) (ho : (⟨o.1, o.2.1⟩ : api_Size) = s) (t0 : 0 ≤ o.2.2.2) (t1 : o.2.2.2 < nn s) : ∀ (n : Nat) (x k : Int) (cs : List api_Cell), (cs.length : Int) = nn s → 0 ≤ x → x < nn s → ahead s x o.2.2.2 ≤ n →
    ∃ k' cs', plane_Plane_Fill_l1 1000 c o n (x, k, cs) = some (.inr (.inl (k', cs'))) ∧ (cs'.length : Int) = nn s := by
  intro n
  induction n with
  | zero => intro x k cs hl h0 h1 h2; have := ahead_pos h h0 h1 t0 t1; omega
  | succ n ih =>
    intro x k cs hl h0 h1 h2
    unfold plane_Plane_Fill_l1
    obtain ⟨y, hy, _⟩ := ix_ok (xs := cs) h0 (by omega)
    simp only [hy, Option.bind_some, onE, ho, move_ok h]
    by_cases hx : (x + 1) % nn s = o.2.2.2
    · rw [if_pos hx]
      exact ⟨_, _, rfl, by simpa using hl⟩
    · rw [if_neg hx]
      obtain ⟨m0, m1⟩ := mod_in h (x + 1)
      refine ih _ _ _ (by simpa using hl) m0 m1 ?_
      rw [ahead_next h h0 h1 t0 t1 hx]; omega
theorem fill_ok {s : api_Size} {p : plane_Plane} (h : PI s p) {x to : Int} (h0 : 0 ≤ x) (h1 : x < nn s) (t0 : 0 ≤ to) (t1 : to < nn s) (c : api_Cell) : ∃ q k, plane_Plane_Fill_m 1000 p x to c = some (q, k) ∧ PI s q := by
  unfold plane_Plane_Fill_m addr_Between_m
  have hs : (⟨p.f_size.f_Rows, p.f_size.f_Cols⟩ : api_Size) = s := h.size
  have a1 : ¬ x < 0 := by omega
  have a2 : ¬ x ≥ nn s := by omega
  have a3 : ¬ to < 0 := by omega
  have a4 : ¬ to ≥ nn s := by omega
  obtain ⟨k', cs', e, hl⟩ := fill_l1 h.sz c (p.f_size.f_Rows, p.f_size.f_Cols, x, to) hs t0 t1 1000 x 0 p.f_cells h.len h0 h1 (by show ahead s x to ≤ _; have := ahead_pos h.sz h0 h1 t0 t1; have := h.sz.le; omega)
  simp only [Option.bind_some, hs, cells_ok h.sz, a1, a2, a3, a4, if_false, decide_false, Bool.false_eq_true, e, onS, onE]
  exact ⟨_, _, rfl, h.sz, h.size, hl, h.cur⟩
theorem repeat_ok' {s : api_Size} {b : paint_brush} (h : BI s b) (o : api_Order) : ∃ b' e, paint_brush_repeat_m 1000 b o = some (b', e) ∧ BI s b' := by
  unfold paint_brush_repeat_m
  obtain ⟨b', e, e1, hb⟩ := jump_ok h o
  rw [e1, Option.bind_some]
  by_cases he : e ≠ 0
  · simp only [he, ne_eq, not_false_eq_true, if_true]; exact ⟨_, _, rfl, hb⟩
  · simp only [he, if_false, paint_brush_char_m, Option.bind_some]
    obtain ⟨q, k, e2, hq⟩ := fill_ok hb.p h.at_.1 h.at_.2 hb.at_.1 hb.at_.2 ⟨o.f_Byte, o.f_GE, false, b'.f_look.f_Light, b'.f_look.f_Color⟩
    rw [e2, Option.bind_some]
    exact ⟨_, _, rfl, hq, hb.at_⟩
theorem wipeb_l1 {s : api_Size} (o : Int × Int × Int × Int) (ho : (⟨o.1, o.2.1⟩ : api_Size) = s) (t0 : 0 ≤ o.2.2.2) (t1 : o.2.2.2 < nn s) : ∀ (n : Nat) (x : Int) (p : plane_Plane), PI s p → 0 ≤ x → x < nn s → ahead s x o.2.2.2 ≤ n →
    ∃ q, paint_brush_wipe_l1 1000 o n (x, p.f_size.f_Rows, p.f_size.f_Cols, p.f_cells, p.f_cursor) = some (.inr (.inl (q.f_size.f_Rows, q.f_size.f_Cols, q.f_cells, q.f_cursor))) ∧ PI s q := by
  intro n
  induction n with
  | zero => intro x p h h0 h1 h2; have := ahead_pos h.sz h0 h1 t0 t1; omega
  | succ n ih =>
    intro x p h h0 h1 h2
    unfold paint_brush_wipe_l1
    obtain ⟨r, e⟩ := open_ok h x
    have key : ∀ q, PI s q → ∃ q', (if (x + 1) % nn s = o.2.2.2 then some (Sum.inr (Sum.inl (q.f_size.f_Rows, q.f_size.f_Cols, q.f_cells, q.f_cursor))) else paint_brush_wipe_l1 1000 o n ((x + 1) % nn s, q.f_size.f_Rows, q.f_size.f_Cols, q.f_cells, q.f_cursor)) = some (.inr (.inl (q'.f_size.f_Rows, q'.f_size.f_Cols, q'.f_cells, q'.f_cursor))) ∧ PI s q' := fun q hq => by
      by_cases hx : (x + 1) % nn s = o.2.2.2
      · rw [if_pos hx]; exact ⟨q, rfl, hq⟩
      · rw [if_neg hx]
        obtain ⟨m0, m1⟩ := mod_in h.sz (x + 1)
        refine ih _ q hq m0 m1 ?_
        rw [ahead_next h.sz h0 h1 t0 t1 hx]; omega
    simp only [eta, e, Option.bind_some]
    cases r with
    | true =>
      simp only [if_true, set_ok h h0 h1, Option.bind_some, onE, ho, move_ok h.sz]
      exact key _ (h.setAt x _)
    | false =>
      simp only [Bool.false_eq_true, if_false, Option.bind_some, onE, ho, move_ok h.sz]
      exact key p h
theorem wipeb_ok {s : api_Size} {b : paint_brush} (h : BI s b) (o : api_Order) : ∃ b' e, paint_brush_wipe_m 1000 b o = some (b', e) ∧ BI s b' := by
  unfold paint_brush_wipe_m addr_Between_m plane_Plane_Size_m
  obtain ⟨b', e, e1, hb⟩ := jump_ok h o
  rw [e1, Option.bind_some]
  by_cases he : e ≠ 0
  · simp only [he, ne_eq, not_false_eq_true, if_true]; exact ⟨_, _, rfl, hb⟩
  · have hs : (⟨b'.f_p.f_size.f_Rows, b'.f_p.f_size.f_Cols⟩ : api_Size) = s := hb.p.size
    have a1 : ¬ b.f_at < 0 := by have := h.at_.1; omega
    have a2 : ¬ b.f_at ≥ nn s := by have := h.at_.2; omega
    have a3 : ¬ b'.f_at < 0 := by have := hb.at_.1; omega
    have a4 : ¬ b'.f_at ≥ nn s := by have := hb.at_.2; omega
    obtain ⟨q, e2, hq⟩ := wipeb_l1 (s := s) (b'.f_p.f_size.f_Rows, b'.f_p.f_size.f_Cols, b.f_at, b'.f_at) hs hb.at_.1 hb.at_.2 1000 b.f_at b'.f_p hb.p h.at_.1 h.at_.2 (by show ahead s b.f_at b'.f_at ≤ _; have := ahead_pos h.p.sz h.at_.1 h.at_.2 hb.at_.1 hb.at_.2; have := h.p.sz.le; omega)
    simp only [he, if_false, Option.bind_some, hs, cells_ok h.p.sz, a1, a2, a3, a4, decide_false, Bool.false_eq_true]
    simp only [e2, Option.bind_some, onS, onE]
    exact ⟨_, _, rfl, ⟨hq.sz, hq.size, hq.len, hq.cur⟩, hb.at_⟩
theorem start_ok {s : api_Size} {b : paint_brush} (h : BI s b) (o : api_Order) (ho : OrdOK 700 o) : ∃ b' e, paint_brush_start_m 1000 b o = some (b', e) ∧ BI s b' := by
  unfold paint_brush_start_m
  obtain ⟨c, e⟩ := dress_ok ⟨0, false, true, 0, 0⟩ o.f_Pairs ho.pairs
  split
  · simp only [Option.bind_some]
    obtain ⟨b', e2, hb⟩ := lay_ok h ⟨o.f_Byte &&& 63, false, true, 0, 0⟩
    rw [e2]; exact ⟨_, _, rfl, hb⟩
  · rw [e]
    simp only [Option.bind_some]
    obtain ⟨b', e2, hb⟩ := lay_ok h ⟨c.f_Byte, c.f_GE, c.f_Start, c.f_Light, c.f_Color⟩
    rw [e2]; exact ⟨_, _, rfl, hb⟩
theorem modifyb_ok {s : api_Size} {b : paint_brush} (h : BI s b) (o : api_Order) (ho : OrdOK 700 o) : ∃ b' e, paint_brush_modify_m 1000 b o = some (b', e) ∧ BI s b' := by
  unfold paint_brush_modify_m
  rw [at_eq, Option.bind_some]
  split
  · exact ⟨_, _, rfl, h⟩
  · obtain ⟨c, e⟩ := dress_ok (cellAt b.f_p b.f_at) o.f_Pairs ho.pairs
    rw [e, Option.bind_some]
    obtain ⟨b', e2, hb⟩ := lay_ok h c
    rw [e2]; exact ⟨_, _, rfl, hb⟩
theorem do_ok {s : api_Size} {b : paint_brush} (h : BI s b) (o : api_Order) (ho : OrdOK 700 o) : ∃ b' e, paint_brush_do_m 1000 b o = some (b', e) ∧ BI s b' := by
  have fin : ∀ {m : Option (paint_brush × Int)} (l : Bool), (∃ b' e, m = some (b', e) ∧ BI s b') → ∃ b' e, (m.bind fun x => some ((⟨x.1.f_p, x.1.f_at, x.1.f_look, l⟩ : paint_brush), x.2)) = some (b', e) ∧ BI s b' := by
    rintro m l ⟨b', e, rfl, hb⟩
    exact ⟨_, _, rfl, hb.p, hb.at_⟩
  unfold paint_brush_do_m
  by_cases k0 : o.f_Kind = 0
  · rw [if_pos k0]
    have : ∃ b' e, paint_brush_data_m 1000 b o = some (b', e) ∧ BI s b' := by
      unfold paint_brush_data_m
      obtain ⟨b', e, hb⟩ := data_l1' o ho.data 1000 0 b h (by omega) (by omega) (by have := ho.data; omega)
      rw [e, Option.bind_some]
      exact ⟨_, _, rfl, ⟨hb.p.sz, hb.p.size, hb.p.len, hb.p.cur⟩, hb.at_⟩
    obtain ⟨b', e, e1, hb⟩ := this
    rw [e1, Option.bind_some]
    split <;> exact ⟨_, _, rfl, hb.p, hb.at_⟩
  · rw [if_neg k0]
    by_cases k1 : o.f_Kind = 8
    · rw [if_pos k1]
      refine fin _ ?_
      unfold paint_brush_special_m paint_brush_char_m
      obtain ⟨b', e, hb⟩ := lay_ok h ⟨o.f_Byte, true, false, b.f_look.f_Light, b.f_look.f_Color⟩
      simp only [Option.bind_some, e]
      exact ⟨_, _, rfl, hb⟩
    · rw [if_neg k1]
      by_cases k2 : o.f_Kind = 17
      · rw [if_pos k2]; exact fin _ (jump_ok h o)
      · rw [if_neg k2]
        simp only [ite_some, Option.bind_some]
        generalize (if o.f_Kind = 29 then decide (o.f_Kind = 29) else decide (o.f_Kind = 41)) = z
        cases z with
        | true => rw [if_pos rfl]; exact fin _ (start_ok h o ho)
        | false =>
          rw [if_neg (by simp)]
          split
          · refine fin _ ?_
            unfold paint_brush_dress_m
            obtain ⟨c, e⟩ := dress_ok b.f_look o.f_Pairs ho.pairs
            rw [e]; exact ⟨_, _, rfl, h.p, h.at_⟩
          · split
            · exact fin _ (modifyb_ok h o ho)
            · split
              · refine fin _ ?_
                unfold paint_brush_cursor_m
                rw [point_ok h.p h.at_.1 h.at_.2, Option.bind_some]
                exact ⟨_, _, rfl, ⟨h.p.sz, h.p.size, h.p.len, h.at_⟩, h.at_⟩
              · split
                · exact fin _ (tab_ok h o)
                · split
                  · exact fin _ (repeat_ok' h o)
                  · split
                    · exact fin _ (wipeb_ok h o)
                    · exact ⟨_, _, rfl, h⟩
theorem paint_l1 {s : api_Size} (os : List api_Order) (hn : os.length ≤ 700) (ho : ∀ o ∈ os, OrdOK 700 o) : ∀ (n : Nat) (i : Int) (b : paint_brush), BI s b → 0 ≤ i → i ≤ (os.length : Int) → (os.length : Int) - i < n →
    ∃ r, paint_Paint_l1 1000 os n (i, b.f_at, b.f_look.f_Byte, b.f_look.f_GE, b.f_look.f_Start, b.f_look.f_Light, b.f_look.f_Color, b.f_laid, b.f_p.f_size.f_Rows, b.f_p.f_size.f_Cols, b.f_p.f_cells, b.f_p.f_cursor) = some r ∧ (match r with
      | .inl x => PI s ⟨⟨x.2.2.2.2.2.2.2.1, x.2.2.2.2.2.2.2.2.1⟩, x.2.2.2.2.2.2.2.2.2.1, x.2.2.2.2.2.2.2.2.2.2⟩
      | .inr x => PI s x.1) := by
  intro n
  induction n with
  | zero => intro i b h h0 h1 h2; omega
  | succ n ih =>
    intro i b h h0 h1 h2
    unfold paint_Paint_l1
    by_cases hi : i < (os.length : Int)
    · obtain ⟨y, hy, hy2⟩ := ix_ok (xs := os) h0 hi
      obtain ⟨b', e, e1, hb⟩ := do_ok h y (ho y (List.mem_of_getElem? hy2))
      have e1' : paint_brush_do_m 1000 ⟨⟨⟨b.f_p.f_size.f_Rows, b.f_p.f_size.f_Cols⟩, b.f_p.f_cells, b.f_p.f_cursor⟩, b.f_at, ⟨b.f_look.f_Byte, b.f_look.f_GE, b.f_look.f_Start, b.f_look.f_Light, b.f_look.f_Color⟩, b.f_laid⟩ y = some (b', e) := e1
      have hw : w64 (i + 1) = i + 1 := w64_in (by omega)
      simp only [hi, if_true, hy, Option.bind_some, e1', hw]
      split
      · exact ⟨_, rfl, hb.p⟩
      · exact ih (i + 1) b' hb (by omega) (by omega) (by omega)
    · rw [if_neg hi]; exact ⟨_, rfl, h.p⟩
theorem paint_ok {s : api_Size} {p : plane_Plane} (h : PI s p) (os : List api_Order) (hn : os.length ≤ 700) (ho : ∀ o ∈ os, OrdOK 700 o) {x : Int} (h0 : 0 ≤ x) (h1 : x < nn s) : ∃ q a d e, paint_Paint_m 1000 p os x = some (q, a, d, e) ∧ PI s q := by
  unfold paint_Paint_m plane_Plane_Len_m
  have a1 : ¬ x < 0 := by omega
  have a2 : ¬ x ≥ nn s := by omega
  simp only [a1, if_false, Option.bind_some, h.len, a2, decide_false, Bool.false_eq_true]
  obtain ⟨r, e, hr⟩ := paint_l1 os hn ho 1000 0 ⟨p, x, zc, false⟩ ⟨h, h0, h1⟩ (by omega) (by omega) (by omega)
  have e' : paint_Paint_l1 1000 os 1000 (0, x, 0, false, false, 0, 0, false, p.f_size.f_Rows, p.f_size.f_Cols, p.f_cells, p.f_cursor) = some r := e
  rw [e', Option.bind_some]
  match r, hr with
  | .inl x, hx => exact ⟨_, _, _, _, rfl, hx⟩
  | .inr x, hx => exact ⟨x.1, x.2.1, x.2.2.1, x.2.2.2, rfl, hx⟩

/-! ### The screen -/
/-- A screen of two sizes. -/
structure SI (a b : api_Size) (s : screen_Screen) : Prop where
  za : Sz a
  zb : Sz b
  s0 : s.f_sizes_0 = a
  s1 : s.f_sizes_1 = b
  w : s.f_which = 0 ∨ s.f_which = 1
  p : PI (if s.f_which = 0 then a else b) s.f_p
theorem renew_ok {a b : api_Size} {s : screen_Screen} (h : SI a b s) {k : Int} (hk : k = 0 ∨ k = 1) : screen_Screen_renew_m s k = some ⟨a, b, k, ⟨if k = 0 then a else b, List.replicate (nn (if k = 0 then a else b)).toNat zc, 0⟩⟩ := by
  unfold screen_Screen_renew_m
  rcases hk with rfl | rfl
  · simp only [if_true, h.s0, h.s1, new_ok h.za, Option.bind_some, onE]
  · have : ¬ (1 : Int) = 0 := by omega
    simp only [this, if_false, if_true, h.s0, h.s1, new_ok h.zb, Option.bind_some, onE]
theorem renew_SI {a b : api_Size} {s : screen_Screen} (h : SI a b s) {k : Int} (hk : k = 0 ∨ k = 1) : SI a b ⟨a, b, k, ⟨if k = 0 then a else b, List.replicate (nn (if k = 0 then a else b)).toNat zc, 0⟩⟩ :=
  ⟨h.za, h.zb, rfl, rfl, hk, by rcases hk with rfl | rfl <;> first | exact new_PI h.za | exact new_PI h.zb⟩
/-- An error tells nothing else. -/
def ResOK (r : screen_Result) : Prop := r.f_Err ≠ 0 → r = ⟨0, false, false, r.f_Err⟩
theorem write_ok {a b : api_Size} {s : screen_Screen} (h : SI a b s) (c : command_Command) (hc : CmdIn c) {x : Int} (h0 : 0 ≤ x) (h1 : x < nn (if s.f_which = 0 then a else b)) : ∃ s' r, screen_Screen_write_m 1000 s c x = some (s', r) ∧ SI a b s' ∧ s'.f_which = s.f_which ∧ ResOK r := by
  unfold screen_Screen_write_m command_Restore_m command_Alarm_m
  obtain ⟨q, _, _, e, e1, hq⟩ := paint_ok h.p c.f_Orders hc.n hc.os h0 h1
  simp only [e1, Option.bind_some, ite_some]
  have hs : SI a b ⟨s.f_sizes_0, s.f_sizes_1, s.f_which, q⟩ := ⟨h.za, h.zb, h.s0, h.s1, h.w, hq⟩
  generalize (if e = 0 then c.f_Err else e) = z
  by_cases hz : z ≠ 0
  · rw [if_pos hz]; exact ⟨_, _, rfl, hs, rfl, fun _ => rfl⟩
  · rw [if_neg hz]; exact ⟨_, _, rfl, hs, rfl, fun h => absurd rfl h⟩
theorem erase_ok {a b : api_Size} {s : screen_Screen} (h : SI a b s) (c : command_Command) (hc : CmdIn c) {k : Int} (hk : k = 0 ∨ k = 1) : ∃ s' r, screen_Screen_erase_m 1000 s c k = some (s', r) ∧ SI a b s' ∧ s'.f_which = k ∧ ResOK r := by
  unfold screen_Screen_erase_m
  rw [renew_ok h hk, Option.bind_some]
  obtain ⟨s', r, e, h1, h2, h3⟩ := write_ok (renew_SI h hk) c hc (x := 0) (by omega) (by
    have hp := h.za.pos; have hb := h.zb.pos
    show 0 < nn (if k = 0 then a else b)
    split <;> omega)
  rw [e]; exact ⟨_, _, rfl, h1, h2, h3⟩
/-- Does a command, but for fields. -/
theorem do1_ok {a b : api_Size} (R : screen_Screen → command_Command → Option (screen_Screen × screen_Result)) {s : screen_Screen} (h : SI a b s) (c : command_Command) (hc : CmdIn c) (hk : c.f_Kind ≠ 243) : ∃ s' r, screen_Screen_Do_f_m 1000 R s c = some (s', r) ∧ SI a b s' ∧ ResOK r := by
  unfold screen_Screen_Do_f_m
  by_cases k1 : c.f_Kind = 241
  · rw [if_pos k1]
    unfold command_Clean_m plane_Plane_Cursor_m
    simp only [Option.bind_some]
    have : ∃ q, PI (if s.f_which = 0 then a else b) q ∧ (if (decide (c.f_WCC &&& 1 ≠ 0)) = true then (field_Unmark_m 1000 s.f_p).bind fun o8 => some (o8.1.f_size.f_Rows, o8.1.f_size.f_Cols, o8.1.f_cells, o8.1.f_cursor) else some (s.f_p.f_size.f_Rows, s.f_p.f_size.f_Cols, s.f_p.f_cells, s.f_p.f_cursor)) = some (q.f_size.f_Rows, q.f_size.f_Cols, q.f_cells, q.f_cursor) := by
      by_cases hcl : decide (c.f_WCC &&& 1 ≠ 0) = true
      · obtain ⟨q, k, e, hq, _⟩ := unmark_ok h.p
        exact ⟨q, hq, by rw [if_pos hcl, e]; rfl⟩
      · exact ⟨s.f_p, h.p, by rw [if_neg hcl]⟩
    obtain ⟨q, hq, e⟩ := this
    rw [e]
    simp only [Option.bind_some]
    obtain ⟨s', r, e2, g1, _, g2⟩ := write_ok (s := ⟨s.f_sizes_0, s.f_sizes_1, s.f_which, q⟩) ⟨h.za, h.zb, h.s0, h.s1, h.w, hq⟩ c hc hq.cur.1 hq.cur.2
    have e2' : screen_Screen_write_m 1000 ⟨s.f_sizes_0, s.f_sizes_1, s.f_which, ⟨⟨q.f_size.f_Rows, q.f_size.f_Cols⟩, q.f_cells, q.f_cursor⟩⟩ c q.f_cursor = some (s', r) := e2
    rw [e2']
    exact ⟨_, _, rfl, g1, g2⟩
  · rw [if_neg k1]
    by_cases k2 : c.f_Kind = 245
    · rw [if_pos k2]
      obtain ⟨s', r, e, g1, _, g2⟩ := erase_ok h c hc (k := 0) (.inl rfl)
      rw [e]; exact ⟨_, _, rfl, g1, g2⟩
    · rw [if_neg k2]
      by_cases k3 : c.f_Kind = 126
      · rw [if_pos k3]
        obtain ⟨s', r, e, g1, _, g2⟩ := erase_ok h c hc (k := 1) (.inr rfl)
        rw [e]; exact ⟨_, _, rfl, g1, g2⟩
      · rw [if_neg k3]
        by_cases k4 : c.f_Kind = 111
        · rw [if_pos k4]
          obtain ⟨q, k, e, hq⟩ := wipeopen_ok h.p
          rw [e]; exact ⟨_, _, rfl, ⟨h.za, h.zb, h.s0, h.s1, h.w, hq⟩, fun h => absurd rfl h⟩
        · rw [if_neg k4]
          simp only [ite_some, Option.bind_some]
          generalize (if c.f_Kind = 242 then decide (c.f_Kind = 242) else if c.f_Kind = 246 then decide (c.f_Kind = 246) else decide (c.f_Kind = 110)) = z
          cases z with
          | true => rw [if_pos rfl]; exact ⟨_, _, rfl, h, fun h => absurd rfl h⟩
          | false => rw [if_neg (by simp), if_neg hk]; exact ⟨_, _, rfl, h, fun _ => rfl⟩
end Go.Proofs.YtecipnjloenndaaGreatDoor.G
