/-
Plain law: of 29 attention keys four are sent alone, and all have unlike names.
-/
import Derived.Test.YtecipnjloenndaaDoorKsG2
import Derived.KernelRfl
set_option linter.unusedVariables false
set_option linter.unusedSimpArgs false
set_option maxRecDepth 100000
namespace Go.Proofs.YtecipnjloenndaaDoor.G
open Go Go.RowKit Go.Proofs.YtecipnjloenndaaDoor.SX

theorem alive22 : law22_alive_m 1000 = some true := by kernel_rfl
def endOf (r : Option (Sum (Int × (List ((List UInt8) × Bool))) Bool)) : Bool := match r with
  | some (.inl (s, ps)) => decide (s = 4) && decide (ps.length = 29) && !((mget ps []).getD false) && (List.range 17).all (fun i => match ix glob_0 (i : Int) with | some o => !((mget ps o).getD false) | none => false)
  | _ => false
theorem loop22 : endOf (law22_KeyboardShorts_l1 1000 1000 (0, 0, ([] : List ((List UInt8) × Bool)))) = true := by kernel_rfl
theorem endOf_true {r : Option (Sum (Int × (List ((List UInt8) × Bool))) Bool)} (h : endOf r = true) : ∃ ps, r = some (.inl (4, ps)) ∧ ps.length = 29 ∧ (mget ps []).getD false = false ∧ ∀ i : Nat, i < 17 → ∃ o, ix glob_0 (i : Int) = some o ∧ (mget ps o).getD false = false := by
  unfold endOf at h
  split at h
  · rename_i s ps
    simp only [Bool.and_eq_true, decide_eq_true_eq, Bool.not_eq_true', List.all_eq_true, List.mem_range] at h
    obtain ⟨⟨⟨h1, h2⟩, h3⟩, h4⟩ := h
    subst h1
    refine ⟨ps, rfl, h2, h3, fun i hi => ?_⟩
    have := h4 i hi
    split at this
    · rename_i o ho
      exact ⟨o, ho, by simpa using this⟩
    · cases this
  · cases h
theorem att0 : keyboard_attention_m 0 = some [] := by kernel_rfl
theorem KeyboardShorts_true (k : Int) : law22_KeyboardShorts_m 1000 k = some true := by
  unfold law22_KeyboardShorts_m
  rw [alive22]
  simp only [Option.bind_some, Bool.not_true, Bool.false_eq_true, if_false]
  obtain ⟨ps, e, h1, h2, h3⟩ := endOf_true loop22
  rw [e]
  simp only [Option.bind_some, onS]
  have hl : ((ps.length : Nat) : Int) = 29 := by omega
  have fin : ∀ o : List UInt8, keyboard_Name_m ⟨k, 0⟩ = some o → (k = 17 ∨ (mget ps o).getD false = false) → (o = [] ∨ (k > 1 ∧ k < 17)) → ((keyboard_Name_m (⟨k, 0⟩ : keyboard_Key)).bind fun o32 => (if (ps.length : Int) = 29 then (if (4 : Int) = 4 then (if k = 17 then (if o32 = ([] : List UInt8) then some true else (if k > 1 then some (decide (k < 17)) else some false)) else (if (!((mget ps o32).getD false)) = true then (if o32 = ([] : List UInt8) then some true else (if k > 1 then some (decide (k < 17)) else some false)) else some false)) else some false) else some false)) = some true := by
    intro o ho hk hn
    have inner : (if o = ([] : List UInt8) then some true else (if k > 1 then some (decide (k < 17)) else some false)) = some true := by
      rcases hn with hn | ⟨a, b⟩
      · rw [if_pos hn]
      · by_cases ho' : o = []
        · rw [if_pos ho']
        · rw [if_neg ho', if_pos a, decide_eq_true b]
    rw [ho, Option.bind_some, if_pos hl, if_pos rfl, inner]
    rcases hk with hk | hk
    · rw [if_pos hk]
    · rw [hk]
      simp
  by_cases k17 : k = 17
  · refine fin [] ?_ (.inl k17) (.inl rfl)
    unfold keyboard_Name_m
    rw [if_pos k17]
    show (keyboard_attention_m 0).bind _ = _
    rw [att0]; rfl
  · by_cases kr : k ≤ 1 ∨ k > 17
    · refine fin [] ?_ (.inr h2) (.inl rfl)
      unfold keyboard_Name_m
      rw [if_neg k17]
      rcases kr with kr | kr
      · simp only [kr, if_true, Option.bind_some]
      · have : ¬ k ≤ 1 := by omega
        simp only [this, if_false, kr, decide_true, Option.bind_some, if_true]
    · have a : ¬ k ≤ 1 := by omega
      have b : ¬ k > 17 := by omega
      obtain ⟨o, ho, hg⟩ := h3 k.toNat (by omega)
      rw [show ((k.toNat : Nat) : Int) = k by omega] at ho
      refine fin o ?_ (.inr hg) (.inr ⟨by omega, by omega⟩)
      unfold keyboard_Name_m
      rw [if_neg k17]
      simp only [a, if_false, b, decide_false, Option.bind_some, Bool.false_eq_true, ho]
end Go.Proofs.YtecipnjloenndaaDoor.G
