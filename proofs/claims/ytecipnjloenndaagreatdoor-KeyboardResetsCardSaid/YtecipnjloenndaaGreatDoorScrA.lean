/-
Plain laws of planes and fields: what the walks compute is there, and keeps the plane's shape.
-/
import Derived.Test.YtecipnjloenndaaGreatDoorKbG4
import Derived.KernelRfl
set_option linter.unusedVariables false
set_option linter.unusedSimpArgs false
set_option maxRecDepth 100000
namespace Go.Proofs.YtecipnjloenndaaGreatDoor.G
open Go Go.RowKit Go.Proofs.YtecipnjloenndaaGreatDoor.SX

/-! ### Numbers, lists -/
theorem w64_in {x : Int} (h : -9223372036854775808 ≤ x ∧ x < 9223372036854775808) : w64 x = x := w64_of h.1 h.2
theorem ix_ok {α : Type} {xs : List α} {i : Int} (h0 : 0 ≤ i) (h : i < (xs.length : Int)) : ∃ y, ix xs i = some y ∧ xs[i.toNat]? = some y := by
  have hl : i.toNat < xs.length := by omega
  exact ⟨xs[i.toNat], by unfold ix; rw [if_pos h0, List.getElem?_eq_getElem hl], List.getElem?_eq_getElem hl⟩
theorem sub_ok {α : Type} {xs : List α} {lo hi : Int} (h0 : 0 ≤ lo) (h1 : lo ≤ hi) (h2 : hi ≤ (xs.length : Int)) : sub xs lo hi = some ((xs.take hi.toNat).drop lo.toNat) := by unfold sub; rw [if_pos ⟨h0, h1, h2⟩]
theorem app_ok {α : Type} {xs ys : List α} (h : xs.length + ys.length ≤ 68719476736) : app xs ys = some (xs ++ ys) := by unfold app capGuard; rw [if_pos h]
theorem mk_ok {α : Type} {n : Int} {z : α} (h : 0 ≤ n) (h1 : n ≤ 68719476736) : SX.mk n z = some (List.replicate n.toNat z) := by unfold SX.mk capGuard; rw [if_pos ⟨h, h1⟩]

theorem u8dec {p : UInt8 → Bool} (h : ((List.range 256).all fun n => p (UInt8.ofNat n)) = true) (b : UInt8) : p b = true := by
  have := List.all_eq_true.1 h b.toNat (List.mem_range.2 b.toNat_lt)
  rwa [UInt8.ofNat_toNat] at this
/-! ### Sizes -/
structure Sz (s : api_Size) : Prop where
  r1 : 1 ≤ s.f_Rows
  r2 : s.f_Rows ≤ 43
  c1 : 1 ≤ s.f_Cols
  c2 : s.f_Cols ≤ 132
  n : s.f_Rows * s.f_Cols ≤ 60
def nn (s : api_Size) : Int := s.f_Rows * s.f_Cols
theorem Sz.pos {s : api_Size} (h : Sz s) : 1 ≤ nn s := by
  have := Int.mul_le_mul h.r1 h.c1 (by decide) (by have := h.r1; omega)
  simpa [nn] using this
theorem Sz.le {s : api_Size} (h : Sz s) : nn s ≤ 60 := h.n
theorem cells_ok {s : api_Size} (h : Sz s) : addr_Cells_m s = some (nn s) := by
  have h1 := h.pos; have h2 := h.le
  have hw : w64 (s.f_Rows * s.f_Cols) = nn s := w64_in (by show _ ≤ nn s ∧ nn s < _; omega)
  unfold addr_Cells_m
  have a1 : ¬ s.f_Rows < 1 := by have := h.r1; omega
  have a2 : ¬ s.f_Rows > 43 := by have := h.r2; omega
  have a3 : ¬ s.f_Cols < 1 := by have := h.c1; omega
  have a4 : ¬ s.f_Cols > 132 := by have := h.c2; omega
  have a5 : ¬ nn s > 4096 := by omega
  simp only [a1, a2, a3, a4, a5, hw, if_false, decide_false, Option.bind_some, Bool.false_eq_true]
theorem tmod_lt {x n : Int} (h : 0 < n) : -n < x.tmod n ∧ x.tmod n < n := by
  constructor
  · have := Int.lt_tmod_of_pos x h; omega
  · exact Int.tmod_lt_of_pos x h
theorem move_ok {s : api_Size} (h : Sz s) (at_ by_ : Int) : addr_Move_m s at_ by_ = some ((at_ + by_) % nn s) := by
  have h1 := h.pos; have h2 := h.le
  obtain ⟨p1, p2⟩ := tmod_lt (x := at_) (n := nn s) (by omega)
  obtain ⟨q1, q2⟩ := tmod_lt (x := by_) (n := nn s) (by omega)
  have hw1 : w64 (at_.tmod (nn s) + by_.tmod (nn s)) = at_.tmod (nn s) + by_.tmod (nn s) := w64_in (by omega)
  obtain ⟨r1, r2⟩ := tmod_lt (x := at_.tmod (nn s) + by_.tmod (nn s)) (n := nn s) (by omega)
  have hw2 : w64 ((at_.tmod (nn s) + by_.tmod (nn s)).tmod (nn s) + nn s) = (at_.tmod (nn s) + by_.tmod (nn s)).tmod (nn s) + nn s := w64_in (by omega)
  have hne : nn s ≠ 0 := by omega
  unfold addr_Move_m
  simp only [cells_ok h, Option.bind_some, hne, if_false, ne_eq, not_false_eq_true, if_true, hw1, hw2]
  congr 1
  rw [Int.tmod_eq_emod_of_nonneg (by omega)]
  have e : ∀ x : Int, ∃ k, x.tmod (nn s) = x + nn s * k := fun x => ⟨-(x.tdiv (nn s)), by rw [Int.tmod_def, Int.mul_neg]; omega⟩
  obtain ⟨k1, e1⟩ := e at_
  obtain ⟨k2, e2⟩ := e by_
  obtain ⟨k3, e3⟩ := e (at_.tmod (nn s) + by_.tmod (nn s))
  rw [e3, e1, e2]
  have : at_ + nn s * k1 + (by_ + nn s * k2) + nn s * k3 + nn s = (at_ + by_) + nn s * (k1 + k2 + k3 + 1) := by
    simp only [Int.mul_add, Int.mul_one]; omega
  rw [this, Int.add_mul_emod_self_left]
theorem mod_in {s : api_Size} (h : Sz s) (x : Int) : 0 ≤ x % nn s ∧ x % nn s < nn s := by
  have h1 := h.pos
  exact ⟨Int.emod_nonneg _ (by omega), Int.emod_lt_of_pos _ (by omega)⟩

/-! ### Planes -/
/-- A plane of that size. -/
structure PI (s : api_Size) (p : plane_Plane) : Prop where
  sz : Sz s
  size : p.f_size = s
  len : (p.f_cells.length : Int) = nn s
  cur : 0 ≤ p.f_cursor ∧ p.f_cursor < nn s
def zc : api_Cell := ⟨0, false, false, 0, 0⟩
def cellAt (p : plane_Plane) (i : Int) : api_Cell := if 0 ≤ i then (p.f_cells[i.toNat]?).getD zc else zc
theorem has_eq (p : plane_Plane) (i : Int) : plane_Plane_has_m p i = some (decide (0 ≤ i ∧ i < (p.f_cells.length : Int))) := by
  unfold plane_Plane_has_m
  by_cases h : i ≥ 0
  · have h' : 0 ≤ i := h
    simp [h']
  · have h' : ¬ 0 ≤ i := h
    simp [h']
theorem at_eq (p : plane_Plane) (i : Int) : plane_Plane_At_m p i = some (cellAt p i) := by
  unfold plane_Plane_At_m
  rw [has_eq, Option.bind_some]
  by_cases h : 0 ≤ i ∧ i < (p.f_cells.length : Int)
  · obtain ⟨y, h1, h2⟩ := ix_ok h.1 h.2
    rw [decide_eq_true h]
    simp only [Bool.not_true, Bool.false_eq_true, if_false, h1, Option.bind_some, cellAt, if_pos h.1, h2, Option.getD_some]
  · simp only [h, decide_false, Bool.not_false, if_true, cellAt]
    by_cases h0 : 0 ≤ i
    · rw [if_pos h0, List.getElem?_eq_none (by omega)]; rfl
    · rw [if_neg h0]; rfl
def setAt (p : plane_Plane) (i : Int) (c : api_Cell) : plane_Plane := ⟨p.f_size, p.f_cells.set i.toNat c, p.f_cursor⟩
theorem set_eq (p : plane_Plane) (i : Int) (c : api_Cell) : plane_Plane_Set_m p i c = some (if 0 ≤ i ∧ i < (p.f_cells.length : Int) then (setAt p i c, true) else (p, false)) := by
  unfold plane_Plane_Set_m
  rw [has_eq, Option.bind_some]
  by_cases h : 0 ≤ i ∧ i < (p.f_cells.length : Int)
  · obtain ⟨y, h1, h2⟩ := ix_ok h.1 h.2
    simp [h, h1, setAt]
  · simp [h]
theorem PI.setAt {s : api_Size} {p : plane_Plane} (h : PI s p) (i : Int) (c : api_Cell) : PI s (setAt p i c) := ⟨h.sz, h.size, by simpa [G.setAt] using h.len, h.cur⟩
theorem set_ok {s : api_Size} {p : plane_Plane} (h : PI s p) {i : Int} (h0 : 0 ≤ i) (h1 : i < nn s) (c : api_Cell) : plane_Plane_Set_m p i c = some (setAt p i c, true) := by
  rw [set_eq, if_pos ⟨h0, by rw [h.len]; exact h1⟩]
theorem point_ok {s : api_Size} {p : plane_Plane} (h : PI s p) {i : Int} (h0 : 0 ≤ i) (h1 : i < nn s) : plane_Plane_Point_m p i = some (⟨p.f_size, p.f_cells, i⟩, true) := by
  unfold plane_Plane_Point_m
  rw [has_eq, Option.bind_some]
  simp [h0, h.len, h1]
theorem eta (p : plane_Plane) : (⟨⟨p.f_size.f_Rows, p.f_size.f_Cols⟩, p.f_cells, p.f_cursor⟩ : plane_Plane) = p := rfl
theorem new_ok {s : api_Size} (h : Sz s) : plane_New_m s = some (.inl ⟨s, List.replicate (nn s).toNat zc, 0⟩) := by
  have h1 := h.pos; have h2 := h.le
  unfold plane_New_m
  have : nn s ≠ 0 := by omega
  simp only [cells_ok h, Option.bind_some, this, if_false, mk_ok (z := (⟨0, false, false, 0, 0⟩ : api_Cell)) (show 0 ≤ nn s by omega) (show nn s ≤ 68719476736 by omega)]
  rfl
theorem new_PI {s : api_Size} (h : Sz s) : PI s ⟨s, List.replicate (nn s).toNat zc, 0⟩ := ⟨h, rfl, by have := h.pos; simp; omega, by have := h.pos; show 0 ≤ (0 : Int) ∧ (0 : Int) < nn s; omega⟩

/-! ### Fields -/
theorem look_l1 {s : api_Size} {p : plane_Plane} (h : PI s p) (at_ step : Int) (hs : step = 1 ∨ step = -1) : ∀ (n : Nat) (i : Int), 0 ≤ i → i ≤ nn s → nn s - i < n →
    ∃ r, field_look_l1 1000 p at_ step (nn s) n i = some r ∧ ∀ q, r = .inr q → 0 ≤ q ∧ q < nn s ∧ (cellAt p q).f_Start = true := by
  have hn := h.sz.le
  intro n
  induction n with
  | zero => intro i h0 h1 h2; omega
  | succ n ih =>
    intro i h0 h1 h2
    unfold field_look_l1
    by_cases hi : i < nn s
    · simp only [hi, if_true, plane_Plane_Size_m, Option.bind_some, h.size, move_ok h.sz, at_eq]
      obtain ⟨m0, m1⟩ := mod_in h.sz (at_ + w64 (i * step))
      by_cases hst : (cellAt p ((at_ + w64 (i * step)) % nn s)).f_Start = true
      · rw [if_pos hst]
        exact ⟨_, rfl, fun q e => by cases e; exact ⟨m0, m1, hst⟩⟩
      · rw [if_neg hst, w64_in (x := i + 1) (by omega)]
        exact ih (i + 1) (by omega) (by omega) (by omega)
    · rw [if_neg hi]
      exact ⟨_, rfl, fun q e => by cases e⟩
theorem look_ok {s : api_Size} {p : plane_Plane} (h : PI s p) (at_ step : Int) (hs : step = 1 ∨ step = -1) : ∃ r, field_look_m 1000 p at_ step = some r ∧ (r = -1 ∨ 0 ≤ r ∧ r < nn s ∧ (cellAt p r).f_Start = true) := by
  have h1 := h.sz.pos; have h2 := h.sz.le
  unfold field_look_m plane_Plane_Len_m
  by_cases ha : 0 ≤ at_ ∧ at_ < nn s
  · have n1 : ¬ at_ < 0 := by omega
    have n2 : ¬ at_ ≥ nn s := by omega
    simp only [n1, if_false, Option.bind_some, h.len, n2, decide_false, Bool.false_eq_true]
    obtain ⟨r, e, hr⟩ := look_l1 h at_ step hs 1000 0 (by omega) (by omega) (by omega)
    rw [e, Option.bind_some]
    cases r with
    | inl u => exact ⟨-1, rfl, .inl rfl⟩
    | inr q => exact ⟨q, rfl, .inr (hr q rfl)⟩
  · refine ⟨-1, ?_, .inl rfl⟩
    by_cases n1 : at_ < 0
    · simp [n1]
    · have n2 : at_ ≥ nn s := by omega
      simp [n1, h.len, n2]
theorem after_ok {s : api_Size} {p : plane_Plane} (h : PI s p) (at_ : Int) : ∃ r, field_After_m 1000 p at_ = some r ∧ (r = -1 ∨ 0 ≤ r ∧ r < nn s) := by
  unfold field_After_m plane_Plane_Len_m plane_Plane_Size_m
  obtain ⟨r, e, hr⟩ := look_ok h ((at_ + 1) % nn s) 1 (.inl rfl)
  by_cases n1 : at_ < 0
  · exact ⟨-1, by simp [n1], .inl rfl⟩
  · by_cases n2 : at_ ≥ (p.f_cells.length : Int)
    · exact ⟨-1, by simp [n1, n2], .inl rfl⟩
    · refine ⟨r, ?_, hr.imp id fun h => ⟨h.1, h.2.1⟩⟩
      simp only [n1, if_false, Option.bind_some, n2, decide_false, Bool.false_eq_true, h.size, move_ok h.sz, e]
theorem fieldat_ok {s : api_Size} {p : plane_Plane} (h : PI s p) (at_ : Int) : ∃ r, field_at_m 1000 p at_ = some r ∧ r.f_Start = at_ ∧ r.f_Attr = (cellAt p at_).f_Byte &&& 63 := by
  unfold field_at_m plane_Plane_Len_m
  obtain ⟨r, e, hr⟩ := after_ok h at_
  simp only [e, Option.bind_some, at_eq]
  split <;> exact ⟨_, rfl, rfl, rfl⟩
theorem before_ok {s : api_Size} {p : plane_Plane} (h : PI s p) (at_ : Int) : ∃ r, field_Before_m 1000 p at_ = some r ∧ (r = -1 ∨ 0 ≤ r ∧ r < nn s ∧ (cellAt p r).f_Start = true) := by
  unfold field_Before_m
  obtain ⟨r, e, hr⟩ := look_ok h at_ (-1) (.inr rfl)
  exact ⟨r, by rw [e]; rfl, hr⟩
theorem of_ok {s : api_Size} {p : plane_Plane} (h : PI s p) (at_ : Int) : ∃ r, field_Of_m 1000 p at_ = some r := by
  unfold field_Of_m
  obtain ⟨r, e, hr⟩ := before_ok h at_
  obtain ⟨f, e2, _⟩ := fieldat_ok h r
  rw [e, Option.bind_some]
  split
  · exact ⟨_, rfl⟩
  · rw [e2]; exact ⟨_, rfl⟩
theorem open_ok {s : api_Size} {p : plane_Plane} (h : PI s p) (at_ : Int) : ∃ r, field_Open_m 1000 p at_ = some r := by
  unfold field_Open_m attr_Protected_m plane_Plane_Len_m
  obtain ⟨r, e⟩ := of_ok h at_
  rw [e, Option.bind_some]
  split
  · split <;> exact ⟨_, rfl⟩
  · split <;> exact ⟨_, rfl⟩
theorem modify_ok {s : api_Size} {p : plane_Plane} (h : PI s p) {i : Int} (h0 : 0 ≤ i) (h1 : i < nn s) (on : Bool) : field_modify_m p i on = some (setAt p i { cellAt p i with f_Byte := if on then (cellAt p i).f_Byte ||| 1 else (cellAt p i).f_Byte &&& ~~~1 }) := by
  unfold field_modify_m attr_Modify_m
  rw [at_eq, Option.bind_some]
  cases on <;> simp [set_ok h h0 h1]

/-! ### Loops over a plane -/
/-- Each round keeps the plane's shape; so does the whole. -/
theorem unmark_l1 {s : api_Size} : ∀ (n : Nat) (i : Int) (p : plane_Plane) (k : Int), PI s p → 0 ≤ i → i ≤ nn s → nn s - i < n → 
    (∀ j, 0 ≤ j → j < i → (cellAt p j).f_Start = true → (cellAt p j).f_Byte &&& 1 = 0) →
    ∃ q k', field_Unmark_l1 1000 (nn s) n (i, p.f_size.f_Rows, p.f_size.f_Cols, p.f_cells, p.f_cursor, k) = some (.inl (q.f_size.f_Rows, q.f_size.f_Cols, q.f_cells, q.f_cursor, k')) ∧ PI s q ∧ q.f_cursor = p.f_cursor ∧
      ∀ j, 0 ≤ j → j < nn s → (cellAt q j).f_Start = true → (cellAt q j).f_Byte &&& 1 = 0 := by
  intro n
  induction n with
  | zero => intro i p k h h0 h1 h2; omega
  | succ n ih =>
    intro i p k h h0 h1 h2 hd
    have hle := h.sz.le
    unfold field_Unmark_l1
    by_cases hi : i < nn s
    · have hw : w64 (i + 1) = i + 1 := w64_in (by omega)
      simp only [hi, if_true, eta, at_eq, Option.bind_some, hw]
      by_cases hst : (cellAt p i).f_Start = true
      · obtain ⟨f, e, e1, e2⟩ := fieldat_ok h i
        simp only [hst, if_true, e, Option.bind_some, attr_Modified_m, e2, decide_eq_true_eq]
        by_cases hm : (cellAt p i).f_Byte &&& 63 &&& 1 ≠ 0
        · simp only [hm, if_true, e1, modify_ok h h0 hi, Option.bind_some, onE, Bool.false_eq_true, if_false, ne_eq, not_false_eq_true]
          have hq := h.setAt i { cellAt p i with f_Byte := (cellAt p i).f_Byte &&& ~~~1 }
          obtain ⟨q, k', g1, g2, g3, g4⟩ := ih (i + 1) _ (w64 (k + 1)) hq (by omega) (by omega) (by omega) (by
            intro j j0 j1 js
            by_cases hji : j = i
            · subst hji
              have : (cellAt (setAt p j { cellAt p j with f_Byte := (cellAt p j).f_Byte &&& ~~~1 }) j) = { cellAt p j with f_Byte := (cellAt p j).f_Byte &&& ~~~1 } := by
                have hl : j.toNat < p.f_cells.length := by have := h.len; omega
                simp only [cellAt, if_pos j0, setAt, List.getElem?_set_self hl, Option.getD_some]
              rw [this]
              show ((cellAt p j).f_Byte &&& ~~~1) &&& 1 = 0
              simpa using u8dec (p := fun b => (b &&& ~~~1) &&& 1 == 0) (by kernel_rfl) (cellAt p j).f_Byte
            · have : cellAt (setAt p i { cellAt p i with f_Byte := (cellAt p i).f_Byte &&& ~~~1 }) j = cellAt p j := by
                simp only [cellAt, if_pos j0, setAt]
                rw [List.getElem?_set_ne (by omega)]
              rw [this] at js ⊢
              exact hd j j0 (by omega) js)
          exact ⟨q, k', g1, g2, g3, g4⟩
        · simp only [hm, if_false, Option.bind_some, onE]
          refine ih (i + 1) p k h (by omega) (by omega) (by omega) ?_
          intro j j0 j1 js
          by_cases hji : j = i
          · subst hji
            have hm' : (cellAt p j).f_Byte &&& 63 &&& 1 = 0 := by simpa using hm
            rw [UInt8.and_assoc] at hm'
            exact hm'
          · exact hd j j0 (by omega) js
      · simp only [hst, if_false, Bool.false_eq_true]
        refine ih (i + 1) p k h (by omega) (by omega) (by omega) ?_
        intro j j0 j1 js
        by_cases hji : j = i
        · subst hji; exact absurd js hst
        · exact hd j j0 (by omega) js
    · rw [if_neg hi]
      exact ⟨p, k, rfl, h, rfl, fun j j0 j1 => hd j j0 (by omega)⟩
theorem unmark_ok {s : api_Size} {p : plane_Plane} (h : PI s p) : ∃ q k, field_Unmark_m 1000 p = some (q, k) ∧ PI s q ∧ q.f_cursor = p.f_cursor ∧ ∀ j, 0 ≤ j → j < nn s → (cellAt q j).f_Start = true → (cellAt q j).f_Byte &&& 1 = 0 := by
  obtain ⟨q, k', e, h1, h2, h3⟩ := unmark_l1 1000 0 p 0 h (by omega) (by have := h.sz.pos; omega) (by have := h.sz.le; omega) (fun j a b => by omega)
  refine ⟨q, k', ?_, h1, h2, h3⟩
  unfold field_Unmark_m field_All_m plane_Plane_Len_m
  simp only [Option.bind_some, h.len, e, onS, onE, eta]
theorem home_l1 {s : api_Size} {p : plane_Plane} (h : PI s p) : ∀ (n : Nat) (i : Int), 0 ≤ i → i ≤ nn s → nn s - i < n → ∃ r, field_Home_l1 1000 p (nn s) n i = some r ∧ ∀ q, r = .inr q → ∃ x, q = .inr x ∧ 0 ≤ x ∧ x < nn s := by
  intro n
  induction n with
  | zero => intro i h0 h1 h2; omega
  | succ n ih =>
    intro i h0 h1 h2
    have hle := h.sz.le
    unfold field_Home_l1
    by_cases hi : i < nn s
    · have hw : w64 (i + 1) = i + 1 := w64_in (by omega)
      have hnext := ih (i + 1) (by omega) (by omega) (by omega)
      simp only [hi, if_true, at_eq, Option.bind_some, hw]
      by_cases hst : (cellAt p i).f_Start = true
      · obtain ⟨f, e, e1, e2⟩ := fieldat_ok h i
        simp only [hst, if_true, e, Option.bind_some, attr_Protected_m, plane_Plane_Size_m, h.size, move_ok h.sz]
        obtain ⟨m0, m1⟩ := mod_in h.sz (f.f_Start + 1)
        by_cases h5 : f.f_Len > 0
        · by_cases h6 : (!decide (f.f_Attr &&& 32 ≠ 0)) = true
          · simp only [h5, if_true, Option.bind_some, h6, onE]
            exact ⟨_, rfl, fun q e => by cases e; exact ⟨_, rfl, m0, m1⟩⟩
          · simp only [h5, if_true, Option.bind_some, h6, if_false, onE, Bool.false_eq_true]
            exact hnext
        · simp only [h5, if_false, Option.bind_some, onE, Bool.false_eq_true]
          exact hnext
      · simp only [hst, if_false, Bool.false_eq_true]
        exact hnext
    · rw [if_neg hi]
      exact ⟨_, rfl, fun q e => by cases e⟩
theorem home_ok {s : api_Size} {p : plane_Plane} (h : PI s p) : ∃ r, field_Home_m 1000 p = some r ∧ 0 ≤ r ∧ r < nn s := by
  obtain ⟨r, e, hr⟩ := home_l1 h 1000 0 (by omega) (by have := h.sz.pos; omega) (by have := h.sz.le; omega)
  unfold field_Home_m field_All_m plane_Plane_Len_m
  simp only [Option.bind_some, h.len, e]
  cases r with
  | inl u => exact ⟨0, rfl, by omega, by have := h.sz.pos; omega⟩
  | inr q => obtain ⟨x, rfl, h1, h2⟩ := hr q rfl; exact ⟨x, rfl, h1, h2⟩
theorem wipe_l1 {s : api_Size} : ∀ (n : Nat) (i : Int) (k : Int) (p : plane_Plane), PI s p → 0 ≤ i → i ≤ nn s → nn s - i < n →
    ∃ q k', wipe_Open_l1 1000 (nn s) n (i, k, p.f_size.f_Rows, p.f_size.f_Cols, p.f_cells, p.f_cursor) = some (k', q.f_size.f_Rows, q.f_size.f_Cols, q.f_cells, q.f_cursor) ∧ PI s q := by
  intro n
  induction n with
  | zero => intro i k p h h0 h1 h2; omega
  | succ n ih =>
    intro i k p h h0 h1 h2
    have hle := h.sz.le
    unfold wipe_Open_l1
    by_cases hi : i < nn s
    · have hw : w64 (i + 1) = i + 1 := w64_in (by omega)
      obtain ⟨r, e⟩ := open_ok h i
      simp only [hi, if_true, eta, e, Option.bind_some, hw]
      by_cases hr : r = true
      · simp only [hr, if_true, set_ok h h0 hi, Option.bind_some]
        exact ih (i + 1) _ _ (h.setAt i _) (by omega) (by omega) (by omega)
      · simp only [hr, if_false, Bool.false_eq_true]
        exact ih (i + 1) _ p h (by omega) (by omega) (by omega)
    · rw [if_neg hi]; exact ⟨p, k, rfl, h⟩
theorem wipe_l2 {s : api_Size} : ∀ (n : Nat) (i : Int) (p : plane_Plane), PI s p → 0 ≤ i → i ≤ nn s → nn s - i < n →
    ∃ q, wipe_Open_l2 1000 (nn s) n (i, p.f_size.f_Rows, p.f_size.f_Cols, p.f_cells, p.f_cursor) = some (.inl (q.f_size.f_Rows, q.f_size.f_Cols, q.f_cells, q.f_cursor)) ∧ PI s q := by
  intro n
  induction n with
  | zero => intro i p h h0 h1 h2; omega
  | succ n ih =>
    intro i p h h0 h1 h2
    have hle := h.sz.le
    unfold wipe_Open_l2
    by_cases hi : i < nn s
    · have hw : w64 (i + 1) = i + 1 := w64_in (by omega)
      simp only [hi, if_true, eta, at_eq, Option.bind_some, hw]
      by_cases hst : (cellAt p i).f_Start = true
      · obtain ⟨f, e, e1, e2⟩ := fieldat_ok h i
        simp only [hst, if_true, e, Option.bind_some, attr_Protected_m, attr_Modify_m, e1, set_ok h h0 hi]
        split
        · simp only [Option.bind_some, onE]
          exact ih (i + 1) p h (by omega) (by omega) (by omega)
        · simp only [Bool.false_eq_true, if_false, Option.bind_some, onE]
          exact ih (i + 1) _ (h.setAt i _) (by omega) (by omega) (by omega)
      · simp only [hst, if_false, Bool.false_eq_true]
        exact ih (i + 1) p h (by omega) (by omega) (by omega)
    · rw [if_neg hi]; exact ⟨p, rfl, h⟩
theorem wipeopen_ok {s : api_Size} {p : plane_Plane} (h : PI s p) : ∃ q k, wipe_Open_m 1000 p = some (q, k) ∧ PI s q := by
  have b0 : (0 : Int) ≤ nn s := by have := h.sz.pos; omega
  have b1 : nn s - 0 < ((1000 : Nat) : Int) := by have := h.sz.le; omega
  obtain ⟨q, k, e, h1⟩ := wipe_l1 1000 0 0 p h (by omega) b0 b1
  obtain ⟨q2, e2, h2⟩ := wipe_l2 1000 0 q h1 (by omega) b0 b1
  obtain ⟨r, e3, r0, r1⟩ := home_ok h2
  refine ⟨⟨q2.f_size, q2.f_cells, r⟩, k, ?_, ⟨h2.sz, h2.size, h2.len, r0, r1⟩⟩
  unfold wipe_Open_m field_All_m plane_Plane_Len_m
  simp only [Option.bind_some, h.len, e, eta, h1.len, e2, onS, onE, e3, point_ok h2 r0 r1]
end Go.Proofs.YtecipnjloenndaaGreatDoor.G
