/-
Plain laws: the keyboard that a law begins with.
-/
import Derived.Test.YtecipnjloenndaaGreatDoorKbC
set_option linter.unusedVariables false
set_option linter.unusedSimpArgs false
set_option maxRecDepth 100000
namespace Go.Proofs.YtecipnjloenndaaGreatDoor.G
open Go Go.RowKit Go.Proofs.YtecipnjloenndaaGreatDoor.SX

theorem alive22 : law22_alive_m 1000 = some true := by kernel_rfl
theorem few_l1 (ops : List law22_Op) (hl : ops.length ≤ 9223372036854775807) (K : Nat) : ∀ (n : Nat) (i : Int), 0 ≤ i → i ≤ (ops.length : Int) → (ops.length : Int) - i < n → (∀ o ∈ ops.take i.toNat, o.f_B.length ≤ 150) →
    law22_few_l1 K ops n i = some (.inr false) ∨ (law22_few_l1 K ops n i = some (.inl ()) ∧ ∀ o ∈ ops, o.f_B.length ≤ 150) := by
  intro n
  induction n with
  | zero => intro i h0 h1 h2; omega
  | succ n ih =>
    intro i h0 h1 h2 hb
    unfold law22_few_l1
    by_cases hi : i < (ops.length : Int)
    · obtain ⟨y, e, ey⟩ := ix_ok h0 hi
      have hw : w64 (i + 1) = i + 1 := w64_in (by omega)
      simp only [hi, if_true, e, Option.bind_some, hw]
      by_cases hy : (y.f_B.length : Int) > 150
      · left; rw [if_pos hy]
      · rw [if_neg hy]
        refine ih (i + 1) (by omega) (by omega) (by omega) ?_
        intro o ho
        have h1 : (i + 1).toNat = i.toNat + 1 := by omega
        rw [h1, List.take_add_one, ey] at ho
        rcases List.mem_append.1 ho with ho | ho
        · exact hb o ho
        · have : o = y := by simpa using ho
          rw [this]; omega
    · right
      rw [if_neg hi]
      refine ⟨rfl, fun o ho => hb o ?_⟩
      rw [List.take_of_length_le (by omega)]; exact ho
theorem few_ok (ops : List law22_Op) (hl : ops.length ≤ 9223372036854775807) : ∃ r, law22_few_m (1000 + ops.length) ops = some r ∧ (r = true → ops.length ≤ 20 ∧ ∀ o ∈ ops, o.f_B.length ≤ 150) := by
  unfold law22_few_m
  rcases few_l1 ops hl (1000 + ops.length) (1000 + ops.length) 0 (by omega) (by omega) (by omega) (by simp) with e | ⟨e, g⟩
  · exact ⟨false, by rw [e]; rfl, fun h => by cases h⟩
  · refine ⟨decide ((ops.length : Int) ≤ 20), by rw [e]; rfl, fun h => ⟨?_, g⟩⟩
    have := of_decide_eq_true h
    omega
def freshK (a b : api_Size) : keyboard_Keyboard := ⟨fresh a b, ⟨0, 0, 0⟩, false, 96⟩
theorem made22 (a b : api_Size) : (Sz a ∧ Sz b ∧ ∃ r, law22_made_m a b = some (.inl (freshK a b, r))) ∨ (∃ r, law22_made_m a b = some (.inr r)) := by
  unfold law22_made_m ref18_New_m
  rw [ref_cells, ref_cells]
  rcases cells_case a with e1 | ⟨a1, a2, a3, a4, a5, a6, e1, w1⟩
  · right; simp [e1]
  rcases cells_case b with e2 | ⟨b1, b2, b3, b4, b5, b6, e2, w2⟩
  · right
    have : nn a ≠ 0 := by omega
    simp [e1, e2, this]
  have z1 : nn a ≠ 0 := by omega
  have z2 : nn b ≠ 0 := by omega
  have hr : ref18_Renew_m (⟨a, b, (⟨(⟨0, 0⟩ : api_Size), [], 0⟩ : ref14_Plane), false⟩ : ref18_Screen) false = some ⟨a, b, ⟨a, List.replicate (nn a).toNat zc, 0⟩, false⟩ := by
    unfold ref18_Renew_m
    simp only [refnew_ok a5 a6 e1, Option.bind_some, if_false, Bool.false_eq_true]
  simp only [e1, e2, Option.bind_some, ite_some, z1, z2, if_false, decide_false, Bool.false_eq_true, hr, w1, w2, ne_eq, not_true]
  by_cases k1 : nn a > 60
  · right; simp [k1]
  by_cases k2 : nn b > 60
  · right; simp [k1, k2]
  have ha : Sz a := ⟨a1, a2, a3, a4, by show nn a ≤ 60; omega⟩
  have hb : Sz b := ⟨b1, b2, b3, b4, by show nn b ≤ 60; omega⟩
  left
  refine ⟨ha, hb, ⟨⟨a, b, ⟨a, List.replicate (nn a).toNat zc, 0⟩, false⟩, ⟨0, 0, 0⟩, false, 96⟩, ?_⟩
  unfold keyboard_New_m
  simp only [k1, k2, if_false, decide_false, Bool.false_eq_true, screen_new ha hb, Option.bind_some, onE]
  rfl
/-- The parts of a keyboard, as the loops carry them. -/
def kparts (k : keyboard_Keyboard) : Int × Int × Int × Bool × UInt8 × Int × Int × Int × Int × Int × Int × Int × (List api_Cell) × Int := (k.f_l.f_state, k.f_l.f_why, k.f_l.f_turns, k.f_insert, k.f_last, k.f_s.f_sizes_0.f_Rows, k.f_s.f_sizes_0.f_Cols, k.f_s.f_sizes_1.f_Rows, k.f_s.f_sizes_1.f_Cols, k.f_s.f_which, k.f_s.f_p.f_size.f_Rows, k.f_s.f_p.f_size.f_Cols, k.f_s.f_p.f_cells, k.f_s.f_p.f_cursor)
theorem etaK (k : keyboard_Keyboard) : (⟨(⟨(⟨k.f_s.f_sizes_0.f_Rows, k.f_s.f_sizes_0.f_Cols⟩ : api_Size), (⟨k.f_s.f_sizes_1.f_Rows, k.f_s.f_sizes_1.f_Cols⟩ : api_Size), k.f_s.f_which, (⟨(⟨k.f_s.f_p.f_size.f_Rows, k.f_s.f_p.f_size.f_Cols⟩ : api_Size), k.f_s.f_p.f_cells, k.f_s.f_p.f_cursor⟩ : plane_Plane)⟩ : screen_Screen), (⟨k.f_l.f_state, k.f_l.f_why, k.f_l.f_turns⟩ : lock_Lock), k.f_insert, k.f_last⟩ : keyboard_Keyboard) = k := rfl
theorem etaL (k : keyboard_Keyboard) (s : screen_Screen) : (⟨s, (⟨k.f_l.f_state, k.f_l.f_why, k.f_l.f_turns⟩ : lock_Lock), k.f_insert, k.f_last⟩ : keyboard_Keyboard) = ⟨s, k.f_l, k.f_insert, k.f_last⟩ := rfl
end Go.Proofs.YtecipnjloenndaaGreatDoor.G
