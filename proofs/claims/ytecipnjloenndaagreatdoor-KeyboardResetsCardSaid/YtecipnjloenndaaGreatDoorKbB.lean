/-
Plain laws of what is typed: each is done, the plane keeps its shape, and what fails turns nothing.
-/
import Derived.Test.YtecipnjloenndaaGreatDoorKbA
set_option linter.unusedVariables false
set_option linter.unusedSimpArgs false
set_option maxRecDepth 100000
namespace Go.Proofs.YtecipnjloenndaaGreatDoor.G
open Go Go.RowKit Go.Proofs.YtecipnjloenndaaGreatDoor.SX

/-! ### The places behind one -/
def Row (s : api_Size) (ys : List Int) : Prop := ∀ y ∈ ys, 0 ≤ y ∧ y < nn s
theorem Row.snoc {s : api_Size} {ys : List Int} (h : Row s ys) {y : Int} (h0 : 0 ≤ y) (h1 : y < nn s) : Row s (ys ++ [y]) := by
  intro z hz
  rcases List.mem_append.1 hz with hz | hz
  · exact h z hz
  · rw [List.mem_singleton.1 hz]; exact ⟨h0, h1⟩
theorem row_l1 {s : api_Size} {p : plane_Plane} (h : PI s p) : ∀ (n : Nat) (i : Int) (ys : List Int), 0 ≤ i → i ≤ nn s → nn s - i < n → Row s ys → (ys.length : Int) ≤ i → (i < nn s ∨ ys ≠ []) →
    ∃ zs, typing_row_l1 1000 p n (i, ys) = some zs ∧ Row s zs ∧ (zs.length : Int) ≤ nn s ∧ zs ≠ [] := by
  have hle := h.sz.le
  intro n
  induction n with
  | zero => intro i ys h0 h1 h2; omega
  | succ n ih =>
    intro i ys h0 h1 h2 hr hl hne
    unfold typing_row_l1 plane_Plane_Len_m
    rw [Option.bind_some]
    by_cases hi : i < nn s
    · have hw : w64 (i + 1) = i + 1 := w64_in (by omega)
      simp only [h.len, hi, if_true]
      rw [app_ok (by simp; omega), Option.bind_some, hw]
      exact ih (i + 1) (ys ++ [i]) (by omega) (by omega) (by omega) (hr.snoc h0 hi) (by simp; omega) (.inr (by simp))
    · simp only [h.len, hi, if_false]
      exact ⟨ys, rfl, hr, by omega, hne.resolve_left hi⟩
theorem row_l2 {s : api_Size} {p : plane_Plane} (h : PI s p) (at_ : Int) (f : Int × Int × UInt8) (k : Int) (hk : 1 ≤ k) (hat : at_ = (f.1 + k) % nn s) (hkl : k ≤ f.2.1) (hln : f.2.1 < nn s) : ∀ (n : Nat) (i : Int) (ys : List Int), 0 ≤ i → i ≤ f.2.1 → f.2.1 - i < n → Row s ys → (ys.length : Int) ≤ i → (i < k ∨ ys ≠ []) →
    ∃ zs, typing_row_l2 1000 p at_ f (nn s) n (i, ys) = some (.inl zs) ∧ Row s zs ∧ (zs.length : Int) ≤ nn s ∧ zs ≠ [] := by
  have hle := h.sz.le
  have hb : (if nn s < (if 0 > f.2.1 then 0 else f.2.1) then nn s else (if 0 > f.2.1 then 0 else f.2.1)) = f.2.1 := by
    have : ¬ 0 > f.2.1 := by omega
    rw [if_neg this, if_neg (by omega)]
  intro n
  induction n with
  | zero => intro i ys h0 h1 h2; omega
  | succ n ih =>
    intro i ys h0 h1 h2 hr hl hne
    unfold typing_row_l2 plane_Plane_Size_m
    rw [hb]
    by_cases hi : i < f.2.1
    · have hw : w64 (i + 1) = i + 1 := w64_in (by omega)
      obtain ⟨m0, m1⟩ := mod_in h.sz (f.1 + (i + 1))
      simp only [hi, if_true, Option.bind_some, h.size, move_ok h.sz, hw, ite_some]
      cases hc : (if (f.1 + (i + 1)) % nn s = at_ then true else decide ((ys.length : Int) > 0)) with
      | true =>
        rw [if_pos rfl, app_ok (by simp; omega)]
        exact ih (i + 1) (ys ++ [(f.1 + (i + 1)) % nn s]) (by omega) (by omega) (by omega) (hr.snoc m0 m1) (by simp; omega) (.inr (by simp))
      | false =>
        rw [if_neg (by simp)]
        refine ih (i + 1) ys (by omega) (by omega) (by omega) hr (by omega) ?_
        by_cases he : (f.1 + (i + 1)) % nn s = at_
        · rw [if_pos he] at hc; cases hc
        · rcases hne with hik | hne
          · left
            by_cases hik2 : i + 1 = k
            · rw [hik2] at he; exact absurd hat.symm he
            · omega
          · exact .inr hne
    · rw [if_neg hi]
      exact ⟨ys, rfl, hr, by omega, hne.resolve_left (by omega)⟩
theorem row_ok {s : api_Size} {p : plane_Plane} (h : PI s p) {at_ : Int} (a0 : 0 ≤ at_) (a1 : at_ < nn s) (hop : field_Open_m 1000 p at_ = some true) : ∃ zs, typing_row_m 1000 p at_ = some zs ∧ Row s zs ∧ (zs.length : Int) ≤ nn s ∧ zs ≠ [] := by
  have hp := h.sz.pos; have hle := h.sz.le
  unfold typing_row_m
  rcases openS h a0 a1 with e | ⟨_, e | ⟨f, k, e, f0, f1, fs, k1, hk, hkl, hl⟩⟩
  · rw [hop] at e; cases e
  · obtain ⟨zs, e2, g⟩ := row_l1 h 1000 at_ [] a0 (by omega) (by omega) (by intro y hy; cases hy) (by simp; omega) (.inl a1)
    exact ⟨zs, by rw [e]; simp only [Option.bind_some, Bool.not_false, if_true, e2], g⟩
  · obtain ⟨zs, e2, g⟩ := row_l2 h at_ (f.f_Start, f.f_Len, f.f_Attr) k k1 hk hkl hl 1000 0 [] (by omega) (by show (0 : Int) ≤ f.f_Len; omega) (by show f.f_Len - 0 < _; omega) (by intro y hy; cases hy) (by simp) (.inl (by omega))
    refine ⟨zs, ?_, g⟩
    unfold field_Places_m plane_Plane_Len_m
    have n1 : ¬ f.f_Start < 0 := by omega
    have n2 : ¬ f.f_Start ≥ nn s := by omega
    rw [e]
    simp only [Option.bind_some, Bool.not_true, Bool.false_eq_true, if_false, n1, h.len, n2, decide_false, e2, onS, onE]

/-! ### What is typed -/
theorem index_l1 {s : api_Size} {p : plane_Plane} (ys : List Int) (hl : (ys.length : Int) ≤ 60) : ∀ (n : Nat) (i : Int), 0 ≤ i → i ≤ (ys.length : Int) → (ys.length : Int) - i < n →
    slices_IndexFunc_int_int_v1_l1 1000 ys p n i = some (.inl ()) ∨ ∃ r, slices_IndexFunc_int_int_v1_l1 1000 ys p n i = some (.inr r) ∧ 0 ≤ r ∧ r < (ys.length : Int) := by
  intro n
  induction n with
  | zero => intro i h0 h1 h2; omega
  | succ n ih =>
    intro i h0 h1 h2
    unfold slices_IndexFunc_int_int_v1_l1 typing_shift_1_v0_m
    by_cases hi : i < (ys.length : Int)
    · obtain ⟨y, e, _⟩ := ix_ok h0 hi
      have hw : w64 (i + 1) = i + 1 := w64_in (by omega)
      simp only [hi, if_true, e, Option.bind_some, at_eq, hw, ite_some]
      cases (if (cellAt p y).f_Byte = 0 then (!(cellAt p y).f_GE) else false) with
      | true => exact .inr ⟨i, rfl, h0, hi⟩
      | false => exact ih (i + 1) (by omega) (by omega) (by omega)
    · left; rw [if_neg hi]
theorem shift_l1 {s : api_Size} (ys : List Int) (hr : Row s ys) (hl : (ys.length : Int) ≤ 60) : ∀ (n : Nat) (i : Int) (p : plane_Plane), PI s p → 0 ≤ i → i < (ys.length : Int) → i < n →
    ∃ q, typing_shift_l1 1000 ys n (i, p.f_size.f_Rows, p.f_size.f_Cols, p.f_cells, p.f_cursor) = some (q.f_size.f_Rows, q.f_size.f_Cols, q.f_cells, q.f_cursor) ∧ PI s q := by
  intro n
  induction n with
  | zero => intro i p h h0 h1 h2; omega
  | succ n ih =>
    intro i p h h0 h1 h2
    unfold typing_shift_l1
    by_cases hi : i > 0
    · have hw : w64 (i - 1) = i - 1 := w64_in (by omega)
      obtain ⟨y, e, ey⟩ := ix_ok h0 h1
      obtain ⟨y2, e2, _⟩ := ix_ok (xs := ys) (i := i - 1) (by omega) (by omega)
      obtain ⟨b0, b1⟩ := hr y (List.mem_of_getElem? ey)
      simp only [hi, if_true, hw, e, e2, Option.bind_some, eta, at_eq, set_ok h b0 b1]
      exact ih (i - 1) _ (h.setAt _ _) (by omega) (by omega) (by omega)
    · rw [if_neg hi]
      exact ⟨p, rfl, h⟩
theorem shift_ok {s : api_Size} {p : plane_Plane} (h : PI s p) (hop : field_Open_m 1000 p p.f_cursor = some true) : ∃ q e, typing_shift_m 1000 p = some (q, e) ∧ PI s q ∧ (e ≠ 0 → q = p) := by
  have hle := h.sz.le
  unfold typing_shift_m plane_Plane_Cursor_m slices_IndexFunc_int_int_v1_m
  obtain ⟨zs, e, hr, hl, _⟩ := row_ok h h.cur.1 h.cur.2 hop
  simp only [Option.bind_some, e]
  rcases index_l1 (s := s) (p := p) zs (by omega) 1000 0 (by omega) (by omega) (by omega) with e2 | ⟨r, e2, r0, r1⟩
  · rw [e2]
    exact ⟨p, 43, rfl, h, fun _ => rfl⟩
  · rw [e2]
    have : ¬ r < 0 := by omega
    obtain ⟨q, e3, hq⟩ := shift_l1 zs hr (by omega) 1000 r p h r0 r1 (by omega)
    simp only [Option.bind_some, onS, this, if_false, e3]
    exact ⟨q, 0, rfl, hq, fun h => absurd rfl h⟩
theorem mark_ok {s : api_Size} {p : plane_Plane} (h : PI s p) (i : Int) : ∃ q b, field_Mark_m 1000 p i = some (q, b) ∧ PI s q := by
  unfold field_Mark_m
  obtain ⟨r, e, hr⟩ := before_ok h i
  rw [e, Option.bind_some]
  by_cases hn : r < 0
  · rw [if_pos hn]; exact ⟨p, false, rfl, h⟩
  · rw [if_neg hn]
    have hr' := hr.resolve_left (by omega)
    rw [modify_ok h hr'.1 hr'.2.1]
    exact ⟨_, true, rfl, h.setAt _ _⟩
theorem may_ok {s : api_Size} {p : plane_Plane} (h : PI s p) (y : UInt8) : ∃ e, typing_may_m 1000 p y = some e ∧ (e = 0 → field_Open_m 1000 p p.f_cursor = some true) := by
  unfold typing_may_m plane_Plane_Cursor_m attr_Numeric_m typing_number_m code_Digit_m
  obtain ⟨f, e1⟩ := of_ok h p.f_cursor
  obtain ⟨b, e2⟩ := open_ok h p.f_cursor
  simp only [Option.bind_some, e1, e2, ite_some]
  cases b with
  | false => exact ⟨41, rfl, fun h => by cases h⟩
  | true =>
    simp only [Bool.not_true, Bool.false_eq_true, if_false]
    exact ⟨_, rfl, fun _ => trivial⟩
theorem Put_ok {s : api_Size} {p : plane_Plane} (h : PI s p) (y : UInt8) (ins : Bool) : ∃ q e, typing_Put_m 1000 p y ins = some (q, e) ∧ PI s q ∧ (e ≠ 0 → q = p) := by
  unfold typing_Put_m plane_Plane_Cursor_m
  obtain ⟨e, e1, ho⟩ := may_ok h y
  rw [Option.bind_some, e1, Option.bind_some]
  by_cases he : e ≠ 0
  · rw [if_pos he]; exact ⟨p, e, rfl, h, fun _ => rfl⟩
  · rw [if_neg he, at_eq, Option.bind_some]
    have hop := ho (by simpa using he)
    have fin : ∀ q, PI s q → q.f_cursor = q.f_cursor → ∃ q' e', ((plane_Plane_Set_m (⟨(⟨q.f_size.f_Rows, q.f_size.f_Cols⟩ : api_Size), q.f_cells, q.f_cursor⟩ : plane_Plane) p.f_cursor (⟨y, false, false, (cellAt p p.f_cursor).f_Light, (cellAt p p.f_cursor).f_Color⟩ : api_Cell)).bind fun o19 => (field_Mark_m 1000 o19.1 p.f_cursor).bind fun o22 => (caret_On_m 1000 o22.1).bind fun o25 => some (o25.1, (0 : Int))) = some (q', e') ∧ PI s q' ∧ (e' ≠ 0 → q' = p) := by
      intro q hq _
      rw [eta, set_ok hq h.cur.1 h.cur.2, Option.bind_some]
      obtain ⟨q2, b, e2, hq2⟩ := mark_ok (hq.setAt p.f_cursor (⟨y, false, false, (cellAt p p.f_cursor).f_Light, (cellAt p p.f_cursor).f_Color⟩ : api_Cell)) p.f_cursor
      obtain ⟨q3, i, e3, hq3⟩ := On_ok hq2
      exact ⟨q3, 0, by simp only [e2, e3, Option.bind_some], hq3, fun h => absurd rfl h⟩
    cases ins with
    | false => simp only [Bool.false_eq_true, if_false, Option.bind_some, onS]; exact fin p h rfl
    | true =>
      obtain ⟨q, e2, e3, hq, hk⟩ := shift_ok h hop
      simp only [if_true, e3, Option.bind_some]
      by_cases hz : e2 ≠ 0
      · rw [if_pos hz]
        exact ⟨q, e2, rfl, hq, hk⟩
      · rw [if_neg hz]
        simp only [Option.bind_some, onS]
        exact fin q hq rfl
theorem Dup_ok {s : api_Size} {p : plane_Plane} (h : PI s p) (ins : Bool) : ∃ q e, typing_Dup_m 1000 p ins = some (q, e) ∧ PI s q ∧ (e ≠ 0 → q = p) := by
  unfold typing_Dup_m plane_Plane_Cursor_m
  obtain ⟨q, e, e1, hq, hk⟩ := Put_ok h 28 ins
  simp only [Option.bind_some, e1]
  by_cases hz : e ≠ 0
  · rw [if_pos hz]; exact ⟨q, e, rfl, hq, hk⟩
  · rw [if_neg hz, point_ok hq h.cur.1 h.cur.2, Option.bind_some]
    obtain ⟨q2, i, e2, hq2⟩ := Tab_ok (p := ⟨q.f_size, q.f_cells, p.f_cursor⟩) ⟨hq.sz, hq.size, hq.len, h.cur⟩
    exact ⟨q2, 0, by simp only [e2, Option.bind_some], hq2, fun h => absurd rfl h⟩
theorem MarkK_ok {s : api_Size} {p : plane_Plane} (h : PI s p) (ins : Bool) : ∃ q e, typing_Mark_m 1000 p ins = some (q, e) ∧ PI s q ∧ (e ≠ 0 → q = p) := by
  unfold typing_Mark_m
  obtain ⟨q, e, e1, hq, hk⟩ := Put_ok h 30 ins
  exact ⟨q, e, by rw [e1]; rfl, hq, hk⟩
theorem Delete_l1 {s : api_Size} (ys : List Int) (hr : Row s ys) (hl : (ys.length : Int) ≤ 60) (hne : ys ≠ []) : ∀ (n : Nat) (i : Int) (p : plane_Plane), PI s p → 0 ≤ i → i ≤ (ys.length : Int) - 1 → (ys.length : Int) - 1 - i < n →
    ∃ q, typing_Delete_l1 1000 ys n (i, p.f_size.f_Rows, p.f_size.f_Cols, p.f_cells, p.f_cursor) = some (q.f_size.f_Rows, q.f_size.f_Cols, q.f_cells, q.f_cursor) ∧ PI s q := by
  have hpos := List.length_pos_iff.2 hne
  have hw1 : w64 ((ys.length : Int) - 1) = (ys.length : Int) - 1 := w64_in (by omega)
  intro n
  induction n with
  | zero => intro i p h h0 h1 h2; omega
  | succ n ih =>
    intro i p h h0 h1 h2
    unfold typing_Delete_l1
    rw [hw1]
    by_cases hi : i < (ys.length : Int) - 1
    · have hw : w64 (i + 1) = i + 1 := w64_in (by omega)
      obtain ⟨y, e, ey⟩ := ix_ok (xs := ys) h0 (by omega)
      obtain ⟨y2, e2, _⟩ := ix_ok (xs := ys) (i := i + 1) (by omega) (by omega)
      obtain ⟨b0, b1⟩ := hr y (List.mem_of_getElem? ey)
      simp only [hi, if_true, hw, e, e2, Option.bind_some, eta, at_eq, set_ok h b0 b1]
      exact ih (i + 1) _ (h.setAt _ _) (by omega) (by omega) (by omega)
    · rw [if_neg hi]
      exact ⟨p, rfl, h⟩
theorem Delete_ok {s : api_Size} {p : plane_Plane} (h : PI s p) : ∃ q e, typing_Delete_m 1000 p = some (q, e) ∧ PI s q ∧ (e ≠ 0 → q = p) := by
  have hle := h.sz.le
  unfold typing_Delete_m plane_Plane_Cursor_m
  obtain ⟨b, e1⟩ := open_ok h p.f_cursor
  rw [Option.bind_some, e1, Option.bind_some]
  cases b with
  | false => exact ⟨p, 41, rfl, h, fun _ => rfl⟩
  | true =>
    obtain ⟨zs, e2, hr, hl, hne⟩ := row_ok h h.cur.1 h.cur.2 e1
    have hpos := List.length_pos_iff.2 hne
    have hw1 : w64 ((zs.length : Int) - 1) = (zs.length : Int) - 1 := w64_in (by omega)
    obtain ⟨q, e3, hq⟩ := Delete_l1 zs hr (by omega) hne 1000 0 p h (by omega) (by omega) (by omega)
    obtain ⟨y, e4, ey⟩ := ix_ok (xs := zs) (i := (zs.length : Int) - 1) (by omega) (by omega)
    obtain ⟨b0, b1⟩ := hr y (List.mem_of_getElem? ey)
    obtain ⟨q2, b, e5, hq2⟩ := mark_ok (hq.setAt y (⟨0, false, false, 0, 0⟩ : api_Cell)) p.f_cursor
    exact ⟨q2, 0, by simp only [Bool.not_true, Bool.false_eq_true, if_false, e2, e3, Option.bind_some, hw1, e4, eta, set_ok hq b0 b1, e5], hq2, fun h => absurd rfl h⟩
theorem rest2_l1 {s : api_Size} (at_ : Int) (f : Int × Int × UInt8) (f0 : 0 ≤ f.1) (f1 : f.1 < nn s) (hf0 : 0 ≤ f.2.1) (hln : f.2.1 < nn s) : ∀ (n : Nat) (i k : Int) (p : plane_Plane), PI s p → isS p f.1 → 0 ≤ i → i ≤ f.2.1 → f.2.1 - i < n →
    ∃ q k', wipe_Rest_l1 1000 at_ f (nn s) n (i, p.f_size.f_Rows, p.f_size.f_Cols, p.f_cells, p.f_cursor, k) = some (.inl (q.f_size.f_Rows, q.f_size.f_Cols, q.f_cells, q.f_cursor, k')) ∧ PI s q ∧ isS q f.1 := by
  have hb : (if nn s < (if 0 > f.2.1 then 0 else f.2.1) then nn s else (if 0 > f.2.1 then 0 else f.2.1)) = f.2.1 := by
    have : ¬ 0 > f.2.1 := by omega
    rw [if_neg this, if_neg (by omega)]
  intro n
  induction n with
  | zero => intro i k p h hs h0 h1 h2; omega
  | succ n ih =>
    intro i k p h hs h0 h1 h2
    have hle := h.sz.le
    unfold wipe_Rest_l1 plane_Plane_Size_m
    rw [hb]
    by_cases hi : i < f.2.1
    · have hw : w64 (i + 1) = i + 1 := w64_in (by omega)
      obtain ⟨m0, m1⟩ := mod_in h.sz (f.1 + (i + 1))
      simp only [hi, if_true, Option.bind_some, eta, h.size, move_ok h.sz, hw, ite_some]
      cases (if (f.1 + (i + 1)) % nn s = at_ then true else decide (k > 0)) with
      | true =>
        rw [if_pos rfl]
        rw [show (⟨⟨s.f_Rows, s.f_Cols⟩, p.f_cells, p.f_cursor⟩ : plane_Plane) = p by rw [← h.size]] 
        rw [set_ok h m0 m1]
        refine ih (i + 1) _ _ (h.setAt _ _) ?_ (by omega) (by omega) (by omega)
        have hne : (f.1 + (i + 1)) % nn s ≠ f.1 := by
          rw [mod_big h.sz f0 f1 (by omega) (by omega)]
          split <;> omega
        have : cellAt (G.setAt p ((f.1 + (i + 1)) % nn s) (⟨0, false, false, 0, 0⟩ : api_Cell)) f.1 = cellAt p f.1 := by
          simp only [cellAt, if_pos f0, G.setAt]
          rw [List.getElem?_set_ne (by omega)]
        unfold isS
        rw [this]
        exact hs
      | false =>
        have := ih (i + 1) k p h hs (by omega) (by omega) (by omega)
        rw [h.size] at this
        exact this
    · rw [if_neg hi]
      exact ⟨p, k, rfl, h, hs⟩
theorem mark_true {s : api_Size} {p : plane_Plane} (h : PI s p) {i j : Int} (h0 : 0 ≤ i) (h1 : i < nn s) (j0 : 0 ≤ j) (j1 : j < nn s) (hs : isS p j) : ∃ q, field_Mark_m 1000 p i = some (q, true) ∧ PI s q := by
  unfold field_Mark_m field_Before_m
  rcases lookS h (at_ := i) (.inr rfl) h0 h1 with ⟨_, hno⟩ | ⟨k, k0, k1, e, g, _⟩
  · exfalso
    -- the place j is somewhere behind
    have hp := h.sz.pos
    by_cases hij : j ≤ i
    · refine hno (i - j) (by omega) (by omega) ?_
      rw [show i + (i - j) * -1 = j by omega, Int.emod_eq_of_lt j0 j1]; exact hs
    · refine hno (i - j + nn s) (by omega) (by omega) ?_
      rw [show i + (i - j + nn s) * -1 = j - nn s by omega, Int.sub_emod_right, Int.emod_eq_of_lt j0 j1]; exact hs
  · obtain ⟨r0, r1⟩ := mod_in h.sz (i + k * (-1))
    have : ¬ (i + k * (-1)) % nn s < 0 := by omega
    rw [e]
    simp only [Option.bind_some, this, if_false, modify_ok h r0 r1]
    exact ⟨_, rfl, h.setAt _ _⟩
theorem Rest_ok {s : api_Size} {p : plane_Plane} (h : PI s p) {i : Int} (h0 : 0 ≤ i) (h1 : i < nn s) : ∃ q k b, wipe_Rest_m 1000 p i = some (q, k, b) ∧ PI s q ∧ (b = false → q = p) := by
  have hp := h.sz.pos; have hle := h.sz.le
  unfold wipe_Rest_m
  rcases openS h h0 h1 with e | ⟨eo, e | ⟨f, k, e, f0, f1, fs, k1, hk, hkl, hl⟩⟩
  · rw [e]; exact ⟨p, 0, false, rfl, h, fun _ => rfl⟩
  · rw [eo, Option.bind_some, e]
    obtain ⟨q, k, e2, hq⟩ := fill_ok h h0 h1 (to := 0) (by omega) (by omega) (⟨0, false, false, 0, 0⟩ : api_Cell)
    unfold plane_Plane_Len_m
    simp only [Bool.not_true, Bool.false_eq_true, if_false, Option.bind_some, Bool.not_false, if_true, e2]
    exact ⟨q, _, true, rfl, hq, fun h => by cases h⟩
  · rw [eo, Option.bind_some, e]
    unfold field_Places_m plane_Plane_Len_m
    have n1 : ¬ f.f_Start < 0 := by omega
    have n2 : ¬ f.f_Start ≥ nn s := by omega
    obtain ⟨q, k', e2, hq, hs⟩ := rest2_l1 (s := s) i (f.f_Start, f.f_Len, f.f_Attr) f0 f1 (by show 0 ≤ f.f_Len; omega) hl 1000 0 0 p h fs (by omega) (by show (0 : Int) ≤ f.f_Len; omega) (by show f.f_Len - 0 < _; omega)
    obtain ⟨q2, e3, hq2⟩ := mark_true hq h0 h1 f0 f1 hs
    exact ⟨q2, k', true, by simp only [Bool.not_true, Bool.false_eq_true, if_false, Option.bind_some, n1, h.len, n2, decide_false, e2, onS, onE, eta, e3], hq2, fun h => by cases h⟩
theorem End_ok {s : api_Size} {p : plane_Plane} (h : PI s p) : ∃ q e, typing_End_m 1000 p = some (q, e) ∧ PI s q ∧ (e ≠ 0 → q = p) := by
  unfold typing_End_m plane_Plane_Cursor_m
  obtain ⟨q, k, b, e, hq, hk⟩ := Rest_ok h h.cur.1 h.cur.2
  rw [Option.bind_some, e, Option.bind_some]
  cases b with
  | false => exact ⟨q, 41, rfl, hq, fun _ => hk rfl⟩
  | true => exact ⟨q, 0, rfl, hq, fun h => absurd rfl h⟩
end Go.Proofs.YtecipnjloenndaaGreatDoor.G
