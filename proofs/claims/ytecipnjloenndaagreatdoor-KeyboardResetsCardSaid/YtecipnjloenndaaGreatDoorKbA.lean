/-
Plain laws of carets and of what is typed: each is done, the plane keeps its shape, and what fails turns nothing.
-/
import Derived.Test.YtecipnjloenndaaGreatDoorScrD
set_option linter.unusedVariables false
set_option linter.unusedSimpArgs false
set_option maxRecDepth 100000
namespace Go.Proofs.YtecipnjloenndaaGreatDoor.G
open Go Go.RowKit Go.Proofs.YtecipnjloenndaaGreatDoor.SX

/-! ### Looking for an attribute, told in full -/
def isS (p : plane_Plane) (i : Int) : Prop := (cellAt p i).f_Start = true
theorem lookS_l1 {s : api_Size} {p : plane_Plane} (h : PI s p) (at_ step : Int) (hs : step = 1 ∨ step = -1) : ∀ (n : Nat) (i : Int), 0 ≤ i → i ≤ nn s → nn s - i < n → (∀ j, 0 ≤ j → j < i → ¬ isS p ((at_ + j * step) % nn s)) →
    (field_look_l1 1000 p at_ step (nn s) n i = some (.inl ()) ∧ ∀ j, 0 ≤ j → j < nn s → ¬ isS p ((at_ + j * step) % nn s)) ∨ ∃ k, 0 ≤ k ∧ k < nn s ∧ field_look_l1 1000 p at_ step (nn s) n i = some (.inr ((at_ + k * step) % nn s)) ∧ isS p ((at_ + k * step) % nn s) ∧ ∀ j, 0 ≤ j → j < k → ¬ isS p ((at_ + j * step) % nn s) := by
  have hn := h.sz.le
  intro n
  induction n with
  | zero => intro i h0 h1 h2; omega
  | succ n ih =>
    intro i h0 h1 h2 hb
    unfold field_look_l1
    by_cases hi : i < nn s
    · have hw : w64 (i * step) = i * step := w64_in (by rcases hs with rfl | rfl <;> omega)
      simp only [hi, if_true, plane_Plane_Size_m, Option.bind_some, h.size, move_ok h.sz, at_eq, hw]
      by_cases hst : (cellAt p ((at_ + i * step) % nn s)).f_Start = true
      · right
        refine ⟨i, h0, hi, by rw [if_pos hst], hst, hb⟩
      · rw [if_neg hst, w64_in (x := i + 1) (by omega)]
        refine ih (i + 1) (by omega) (by omega) (by omega) ?_
        intro j j0 j1
        by_cases hj : j = i
        · subst hj; exact hst
        · exact hb j j0 (by omega)
    · left
      rw [if_neg hi]
      exact ⟨rfl, fun j j0 j1 => hb j j0 (by omega)⟩
theorem lookS {s : api_Size} {p : plane_Plane} (h : PI s p) {at_ step : Int} (hs : step = 1 ∨ step = -1) (a0 : 0 ≤ at_) (a1 : at_ < nn s) :
    (field_look_m 1000 p at_ step = some (-1) ∧ ∀ j, 0 ≤ j → j < nn s → ¬ isS p ((at_ + j * step) % nn s)) ∨ ∃ k, 0 ≤ k ∧ k < nn s ∧ field_look_m 1000 p at_ step = some ((at_ + k * step) % nn s) ∧ isS p ((at_ + k * step) % nn s) ∧ ∀ j, 0 ≤ j → j < k → ¬ isS p ((at_ + j * step) % nn s) := by
  have h2 := h.sz.le
  unfold field_look_m plane_Plane_Len_m
  have n1 : ¬ at_ < 0 := by omega
  have n2 : ¬ at_ ≥ nn s := by omega
  simp only [n1, if_false, Option.bind_some, h.len, n2, decide_false, Bool.false_eq_true]
  rcases lookS_l1 h at_ step hs 1000 0 (by omega) (by omega) (by omega) (fun j a b => by omega) with ⟨e, g⟩ | ⟨k, k0, k1, e, g⟩
  · left; rw [e]; exact ⟨rfl, g⟩
  · right; exact ⟨k, k0, k1, by rw [e]; rfl, g⟩
theorem mod_back {s : api_Size} (h : Sz s) {x k : Int} (h0 : 0 ≤ x) (h1 : x < nn s) : ((x + k * (-1)) % nn s + k) % nn s = x := by
  rw [Int.emod_add_emod, show x + k * (-1) + k = x by omega]
  exact Int.emod_eq_of_lt h0 h1
theorem mod_big {s : api_Size} (h : Sz s) {x k : Int} (h0 : 0 ≤ x) (h1 : x < nn s) (k0 : 0 ≤ k) (k1 : k ≤ nn s) : (x + k) % nn s = if x + k < nn s then x + k else x + k - nn s := by
  have hp := h.pos
  split
  · exact Int.emod_eq_of_lt (by omega) (by omega)
  · rw [← Int.sub_emod_right]
    exact Int.emod_eq_of_lt (by omega) (by omega)
/-- A place's field, told in full. -/
theorem ofS {s : api_Size} {p : plane_Plane} (h : PI s p) {at_ : Int} (a0 : 0 ≤ at_) (a1 : at_ < nn s) :
    field_Of_m 1000 p at_ = some (⟨0, 0, 0⟩, false) ∨ ∃ f k, field_Of_m 1000 p at_ = some (f, true) ∧ field_Before_m 1000 p at_ = some f.f_Start ∧ 0 ≤ f.f_Start ∧ f.f_Start < nn s ∧ isS p f.f_Start ∧ 0 ≤ k ∧ at_ = (f.f_Start + k) % nn s ∧ k ≤ f.f_Len ∧ f.f_Len < nn s ∧ f.f_Attr = (cellAt p f.f_Start).f_Byte &&& 63 := by
  have hp := h.sz.pos; have hle := h.sz.le
  unfold field_Of_m field_Before_m
  rcases lookS h (at_ := at_) (.inr rfl) a0 a1 with ⟨e, _⟩ | ⟨k, k0, k1, e, g, hno⟩
  · left; rw [e]; rfl
  · right
    obtain ⟨r0, r1⟩ := mod_in h.sz (at_ + k * (-1))
    have hback := mod_back h.sz (k := k) a0 a1
    generalize hr : (at_ + k * (-1)) % nn s = r at *
    have hnr : ¬ r < 0 := by omega
    rw [e]
    simp only [Option.bind_some, hnr, if_false]
    unfold field_at_m field_After_m plane_Plane_Len_m plane_Plane_Size_m
    have n2 : ¬ r ≥ nn s := by omega
    obtain ⟨q0, q1⟩ := mod_in h.sz (r + 1)
    have hself : ((r + 1) % nn s + (nn s - 1) * 1) % nn s = r := by
      rw [Int.emod_add_emod, show r + 1 + (nn s - 1) * 1 = r + nn s by omega, Int.add_emod_right]
      exact Int.emod_eq_of_lt r0 r1
    rcases lookS h (at_ := (r + 1) % nn s) (.inl rfl) q0 q1 with ⟨_, hbad⟩ | ⟨m, m0, m1, e2, g2, hno2⟩
    · exact absurd (by rw [hself]; exact g) (hbad (nn s - 1) (by omega) (by omega))
    · have e2' : field_look_m 1000 p ((r + 1) % nn s) 1 = some ((r + (m + 1)) % nn s) := by
        rw [e2, Int.emod_add_emod, show r + 1 + m * 1 = r + (m + 1) by omega]
      have hg2 : isS p ((r + (m + 1)) % nn s) := by
        rw [Int.emod_add_emod, show r + 1 + m * 1 = r + (m + 1) by omega] at g2; exact g2
      have hkm : k ≤ m := by
        by_cases hc : k ≤ m
        · exact hc
        · exfalso
          refine hno (k - (m + 1)) (by omega) (by omega) ?_
          have : (at_ + (k - (m + 1)) * (-1)) % nn s = (r + (m + 1)) % nn s := by
            rw [← hr, Int.emod_add_emod]
            congr 1; omega
          rw [this]; exact hg2
      have hA := mod_big h.sz r0 r1 (k := m + 1) (by omega) (by omega)
      have hw1 : w64 ((r + (m + 1)) % nn s - r) = (r + (m + 1)) % nn s - r := w64_in (by obtain ⟨_, _⟩ := mod_in h.sz (r + (m + 1)); omega)
      have hlen : (if w64 (w64 ((r + (m + 1)) % nn s - r) - 1) < 0 then some (w64 (w64 (w64 ((r + (m + 1)) % nn s - r) - 1) + nn s)) else some (w64 (w64 ((r + (m + 1)) % nn s - r) - 1))) = some m := by
        rw [hw1, w64_in (x := (r + (m + 1)) % nn s - r - 1) (by obtain ⟨_, _⟩ := mod_in h.sz (r + (m + 1)); omega), hA]
        split
        · have : ¬ r + (m + 1) - r - 1 < 0 := by omega
          rw [if_neg this]; congr 1; omega
        · have : r + (m + 1) - nn s - r - 1 < 0 := by omega
          rw [if_pos this, w64_in (by omega)]; congr 1; omega
      refine ⟨⟨r, m, (cellAt p r).f_Byte &&& 63⟩, k, ?_, rfl, r0, r1, g, k0, hback.symm, hkm, m1, rfl⟩
      simp only [hnr, if_false, Option.bind_some, n2, decide_false, Bool.false_eq_true, h.size, move_ok h.sz, e2', h.len, hlen, at_eq]
/-- Where something may be typed. -/
theorem openS {s : api_Size} {p : plane_Plane} (h : PI s p) {at_ : Int} (a0 : 0 ≤ at_) (a1 : at_ < nn s) : field_Open_m 1000 p at_ = some false ∨ (field_Open_m 1000 p at_ = some true ∧
    (field_Of_m 1000 p at_ = some (⟨0, 0, 0⟩, false) ∨ ∃ f k, field_Of_m 1000 p at_ = some (f, true) ∧ 0 ≤ f.f_Start ∧ f.f_Start < nn s ∧ isS p f.f_Start ∧ 1 ≤ k ∧ at_ = (f.f_Start + k) % nn s ∧ k ≤ f.f_Len ∧ f.f_Len < nn s)) := by
  have hle := h.sz.le
  unfold field_Open_m plane_Plane_Len_m attr_Protected_m
  rcases ofS h a0 a1 with e | ⟨f, k, e, _, f0, f1, fs, k0, hk, hkl, hl, _⟩
  · right
    have a1' : at_ < (p.f_cells.length : Int) := by rw [h.len]; exact a1
    refine ⟨?_, .inl e⟩
    rw [e]
    have a0' : at_ ≥ 0 := a0
    simp only [Option.bind_some, Bool.not_false, if_true, a0', a1', decide_true]
  · rw [e]
    simp only [Option.bind_some, Bool.not_true, Bool.false_eq_true, if_false]
    by_cases hne : f.f_Start ≠ at_
    · rw [if_pos hne]
      cases hb : (!decide (f.f_Attr &&& 32 ≠ 0)) with
      | false => left; rfl
      | true =>
        right
        refine ⟨rfl, .inr ⟨f, k, rfl, f0, f1, fs, ?_, hk, hkl, hl⟩⟩
        by_cases hk0 : k = 0
        · subst hk0
          rw [Int.add_zero, Int.emod_eq_of_lt f0 f1] at hk
          exact absurd hk.symm hne
        · omega
    · left; rw [if_neg hne]

/-! ### Carets -/
theorem to_ok {s : api_Size} {p : plane_Plane} (h : PI s p) {i : Int} (h0 : 0 ≤ i) (h1 : i < nn s) : ∃ q, caret_to_m p i = some (q, i) ∧ PI s q := by
  unfold caret_to_m
  rw [point_ok h h0 h1]
  exact ⟨_, rfl, h.sz, h.size, h.len, h0, h1⟩
theorem by_ok {s : api_Size} {p : plane_Plane} (h : PI s p) (x y : Int) : caret_by_m p x y = some ((x + y) % nn s) := by
  unfold caret_by_m plane_Plane_Size_m
  simp only [Option.bind_some, h.size, move_ok h.sz]
theorem copen_ok {s : api_Size} {p : plane_Plane} (h : PI s p) (i : Int) : ∃ r, caret_open_m 1000 p i = some r := by
  unfold caret_open_m attr_Protected_m
  obtain ⟨r, e⟩ := of_ok h i
  rw [e]
  simp only [Option.bind_some, ite_some]
  exact ⟨_, rfl⟩
theorem seek_l1 {s : api_Size} {p : plane_Plane} (h : PI s p) (x d : Int) : ∀ (n : Nat) (i : Int), 0 ≤ i → i ≤ nn s → nn s - i < n →
    caret_seek_l1 1000 p x d (nn s) n i = some (.inl ()) ∨ ∃ r, caret_seek_l1 1000 p x d (nn s) n i = some (.inr r) ∧ 0 ≤ r ∧ r < nn s := by
  have hle := h.sz.le
  intro n
  induction n with
  | zero => intro i h0 h1 h2; omega
  | succ n ih =>
    intro i h0 h1 h2
    unfold caret_seek_l1
    by_cases hi : i < nn s
    · have hw : w64 (i + 1) = i + 1 := w64_in (by omega)
      simp only [hi, if_true, by_ok h, Option.bind_some, hw]
      obtain ⟨r, e⟩ := copen_ok h ((x + w64 (i * d)) % nn s)
      rw [e, Option.bind_some]
      cases r with
      | true =>
        obtain ⟨m0, m1⟩ := mod_in h.sz ((x + w64 (i * d)) % nn s + 1)
        exact .inr ⟨_, rfl, m0, m1⟩
      | false => exact ih (i + 1) (by omega) (by omega) (by omega)
    · left; rw [if_neg hi]
theorem seek_ok {s : api_Size} {p : plane_Plane} (h : PI s p) (x d : Int) : ∃ r, caret_seek_m 1000 p x d = some r ∧ 0 ≤ r ∧ r < nn s := by
  have hp := h.sz.pos; have hle := h.sz.le
  unfold caret_seek_m plane_Plane_Len_m
  rw [Option.bind_some, h.len]
  rcases seek_l1 h x d 1000 0 (by omega) (by omega) (by omega) with e | ⟨r, e, r0, r1⟩
  · exact ⟨0, by rw [e]; rfl, by omega, by omega⟩
  · exact ⟨r, by rw [e]; rfl, r0, r1⟩
/-- A caret's move keeps the cells. -/
def Mv (s : api_Size) (r : Option (plane_Plane × Int)) : Prop := ∃ q i, r = some (q, i) ∧ PI s q
theorem Tab_ok {s : api_Size} {p : plane_Plane} (h : PI s p) : Mv s (caret_Tab_m 1000 p) := by
  unfold caret_Tab_m plane_Plane_Cursor_m
  obtain ⟨r, e, r0, r1⟩ := seek_ok h p.f_cursor 1
  obtain ⟨q, e2, hq⟩ := to_ok h r0 r1
  exact ⟨q, r, by simp only [Option.bind_some, e, e2], hq⟩
theorem Back_ok {s : api_Size} {p : plane_Plane} (h : PI s p) : Mv s (caret_Back_m 1000 p) := by
  unfold caret_Back_m plane_Plane_Cursor_m
  obtain ⟨f, e⟩ := of_ok h p.f_cursor
  obtain ⟨b, e1⟩ := copen_ok h f.1.f_Start
  simp only [Option.bind_some, e, e1, by_ok h, ite_some]
  generalize (if f.2 = true then if b = true then if p.f_cursor ≠ f.1.f_Start then decide (p.f_cursor ≠ (f.1.f_Start + 1) % nn s) else false else false else false) = z
  cases z with
  | true =>
    obtain ⟨m0, m1⟩ := mod_in h.sz (f.1.f_Start + 1)
    obtain ⟨q, e2, hq⟩ := to_ok h m0 m1
    exact ⟨q, (f.1.f_Start + 1) % nn s, by simp only [if_true, e2, Option.bind_some], hq⟩
  | false =>
    obtain ⟨r, e3, r0, r1⟩ := seek_ok h ((p.f_cursor + -2) % nn s) (-1)
    obtain ⟨q, e2, hq⟩ := to_ok h r0 r1
    exact ⟨q, r, by simp only [Bool.false_eq_true, if_false, e3, e2, Option.bind_some], hq⟩
theorem Newline_l1 {s : api_Size} {p : plane_Plane} (h : PI s p) (x : Int) : ∀ (n : Nat) (i : Int), 0 ≤ i → i ≤ nn s → nn s - i < n →
    caret_Newline_l1 1000 p x (nn s) n i = some (.inl ()) ∨ ∃ q r, caret_Newline_l1 1000 p x (nn s) n i = some (.inr (q, r)) ∧ PI s q := by
  have hle := h.sz.le
  intro n
  induction n with
  | zero => intro i h0 h1 h2; omega
  | succ n ih =>
    intro i h0 h1 h2
    unfold caret_Newline_l1
    by_cases hi : i < nn s
    · have hw : w64 (i + 1) = i + 1 := w64_in (by omega)
      simp only [hi, if_true, by_ok h, Option.bind_some, hw]
      obtain ⟨r, e⟩ := open_ok h ((x + i) % nn s)
      rw [e, Option.bind_some]
      cases r with
      | true =>
        obtain ⟨m0, m1⟩ := mod_in h.sz (x + i)
        obtain ⟨q, e2, hq⟩ := to_ok h m0 m1
        exact .inr ⟨q, (x + i) % nn s, by simp only [if_true, e2, Option.bind_some], hq⟩
      | false => exact ih (i + 1) (by omega) (by omega) (by omega)
    · left; rw [if_neg hi]
theorem split_ok {s : api_Size} (h : Sz s) (i : Int) : ∃ r, addr_Split_m s i = some r := by
  unfold addr_Split_m
  have : s.f_Cols ≠ 0 := by have := h.c1; omega
  simp only [cells_ok h, Option.bind_some, ite_some, this, ne_eq, not_false_eq_true, if_true]
  exact ⟨_, rfl⟩
theorem Newline_ok {s : api_Size} {p : plane_Plane} (h : PI s p) : Mv s (caret_Newline_m 1000 p) := by
  have hp := h.sz.pos; have hle := h.sz.le
  unfold caret_Newline_m plane_Plane_Size_m plane_Plane_Cursor_m plane_Plane_Len_m
  obtain ⟨r, e⟩ := split_ok h.sz p.f_cursor
  simp only [Option.bind_some, h.size, e, by_ok h, h.len]
  rcases Newline_l1 h ((0 + w64 (w64 (r.1 + 1) * s.f_Cols)) % nn s) 1000 0 (by omega) (by omega) (by omega) with e2 | ⟨q, i, e2, hq⟩
  · obtain ⟨q, e3, hq⟩ := to_ok h (i := 0) (by omega) (by omega)
    exact ⟨q, 0, by rw [e2]; simp only [Option.bind_some, onS, e3], hq⟩
  · exact ⟨q, i, by rw [e2]; rfl, hq⟩
theorem Home_ok' {s : api_Size} {p : plane_Plane} (h : PI s p) : Mv s (caret_Home_m 1000 p) := by
  unfold caret_Home_m
  obtain ⟨r, e, r0, r1⟩ := home_ok h
  obtain ⟨q, e2, hq⟩ := to_ok h r0 r1
  exact ⟨q, r, by simp only [Option.bind_some, e, e2], hq⟩
theorem Move_ok' {s : api_Size} {p : plane_Plane} (h : PI s p) (x y : Int) : Mv s (caret_Move_m p x y) := by
  unfold caret_Move_m plane_Plane_Size_m plane_Plane_Cursor_m
  have : s.f_Rows ≠ 0 := by have := h.sz.r1; omega
  simp only [Option.bind_some, h.size, this, ne_eq, not_false_eq_true, if_true, by_ok h]
  obtain ⟨m0, m1⟩ := mod_in h.sz ((p.f_cursor + w64 (x.tmod s.f_Rows * s.f_Cols)) % nn s + y)
  obtain ⟨q, e2, hq⟩ := to_ok h m0 m1
  exact ⟨q, _, by rw [e2]; rfl, hq⟩
theorem skip_ok (y : UInt8) : ∃ b, attr_Skip_m y = some b := by
  unfold attr_Skip_m attr_Protected_m attr_Numeric_m
  simp only [Option.bind_some, ite_some]
  exact ⟨_, rfl⟩
theorem On_ok {s : api_Size} {p : plane_Plane} (h : PI s p) : Mv s (caret_On_m 1000 p) := by
  unfold caret_On_m plane_Plane_Cursor_m
  obtain ⟨m0, m1⟩ := mod_in h.sz (p.f_cursor + 1)
  obtain ⟨q, e2, hq⟩ := to_ok h m0 m1
  simp only [Option.bind_some, by_ok h, e2, at_eq]
  obtain ⟨b, eb⟩ := skip_ok (cellAt q ((p.f_cursor + 1) % nn s)).f_Byte
  rw [eb]
  by_cases hst : (cellAt q ((p.f_cursor + 1) % nn s)).f_Start = true
  · simp only [hst, if_true, Option.bind_some]
    cases b with
    | true =>
      obtain ⟨q', i, e3, hq'⟩ := Tab_ok hq
      exact ⟨q', i, by rw [e3]; rfl, hq'⟩
    | false =>
      obtain ⟨m0, m1⟩ := mod_in h.sz ((p.f_cursor + 1) % nn s + 1)
      obtain ⟨q', e3, hq'⟩ := to_ok hq m0 m1
      exact ⟨q', ((p.f_cursor + 1) % nn s + 1) % nn s, by simp only [by_ok hq, Bool.false_eq_true, if_false, Option.bind_some, e3], hq'⟩
  · simp only [hst, if_false, Option.bind_some, Bool.false_eq_true]
    exact ⟨q, _, rfl, hq⟩
theorem move_key {s : api_Size} {p : plane_Plane} (h : PI s p) (k : Int) : ∃ q b, keyboard_move_m 1000 p k = some (q, b) ∧ PI s q ∧ (b = false → q = p) := by
  unfold keyboard_move_m
  have G : ∀ r, Mv s r → ∃ q b, (r.bind fun o => some (o.1, true)) = some (q, b) ∧ PI s q ∧ (b = false → q = p) := by
    rintro r ⟨q, i, rfl, hq⟩; exact ⟨q, true, rfl, hq, fun h => by cases h⟩
  by_cases k2 : k = 2
  · rw [if_pos k2]; exact G _ (Tab_ok h)
  rw [if_neg k2]
  by_cases k3 : k = 3
  · rw [if_pos k3]; exact G _ (Back_ok h)
  rw [if_neg k3]
  by_cases k4 : k = 4
  · rw [if_pos k4]; exact G _ (Newline_ok h)
  rw [if_neg k4]
  by_cases k5 : k = 5
  · rw [if_pos k5]; exact G _ (Home_ok' h)
  rw [if_neg k5]
  by_cases k6 : k = 6
  · rw [if_pos k6]; exact G _ (Move_ok' h _ _)
  rw [if_neg k6]
  by_cases k7 : k = 7
  · rw [if_pos k7]; exact G _ (Move_ok' h _ _)
  rw [if_neg k7]
  by_cases k8 : k = 8
  · rw [if_pos k8]; exact G _ (Move_ok' h _ _)
  rw [if_neg k8]
  by_cases k9 : k = 9
  · rw [if_pos k9]; exact G _ (Move_ok' h _ _)
  rw [if_neg k9]
  exact ⟨p, false, rfl, h, fun _ => rfl⟩
end Go.Proofs.YtecipnjloenndaaGreatDoor.G
