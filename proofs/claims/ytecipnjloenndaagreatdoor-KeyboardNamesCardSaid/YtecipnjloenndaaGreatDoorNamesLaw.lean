/-
The plain law behind KeyboardNames: what the walk computes answers true, for every key and every name.
-/
import Derived.Test.YtecipnjloenndaaGreatDoorNamesG2
import Derived.KernelRfl
set_option maxRecDepth 100000
namespace Go.Proofs.YtecipnjloenndaaGreatDoor.G
open Go Go.RowKit Go.Proofs.YtecipnjloenndaaGreatDoor.SX
theorem alive_runs : law22_alive_m 400 = some true := by kernel_rfl
def chkB (w : List UInt8) : Bool := match keyboard_Named_m 400 w with
  | some (_, ok) => ok == decide (w ≠ [])
  | none => false
def attB (n : Nat) : Bool := match keyboard_attention_m (UInt8.ofNat n), ref22_Attention_m 400 (UInt8.ofNat n), keyboard_plain_m (UInt8.ofNat n) with
  | some s, some t, some p => (s == t) && (s == [] || chkB s) && ((decide (p ≠ []) && decide (UInt8.ofNat n ≠ 125)) == (decide (UInt8.ofNat n = 109) || decide (UInt8.ofNat n = 108) || decide (UInt8.ofNat n = 110) || decide (UInt8.ofNat n = 107)))
  | _, _, _ => false
theorem att_all : ((List.range 256).all attB) = true := by kernel_rfl
def kindB (n : Nat) : Bool := match ix glob_0 ((n + 2 : Nat) : Int) with
  | some s => !(s == []) && chkB s
  | none => false
theorem kind_all : ((List.range 15).all kindB) = true := by kernel_rfl
theorem chk_nil : chkB [] = true := by kernel_rfl
theorem att (b : UInt8) : ∃ s p, keyboard_attention_m b = some s ∧ ref22_Attention_m 400 b = some s ∧ keyboard_plain_m b = some p ∧ chkB s = true ∧ (decide (p ≠ []) && decide (b ≠ 125)) = (decide (b = 109) || decide (b = 108) || decide (b = 110) || decide (b = 107)) := by
  have h := List.all_eq_true.1 att_all b.toNat (List.mem_range.2 b.toNat_lt)
  unfold attB at h
  rw [UInt8.ofNat_toNat] at h
  split at h
  · rename_i s t p h1 h2 h3
    simp only [Bool.and_eq_true, Bool.or_eq_true, beq_iff_eq] at h
    obtain ⟨⟨rfl, hc⟩, hp⟩ := h
    refine ⟨_, _, h1, h2, h3, ?_, hp⟩
    rcases hc with rfl | hc
    · exact chk_nil
    · exact hc
  · cases h
theorem kindN (i : Int) (h2 : 2 ≤ i) (h17 : i < 17) : ∃ s, ix glob_0 i = some s ∧ s ≠ [] ∧ chkB s = true := by
  have h := List.all_eq_true.1 kind_all (i - 2).toNat (List.mem_range.2 (by omega))
  unfold kindB at h
  rw [show (((i - 2).toNat + 2 : Nat) : Int) = i by omega] at h
  split at h
  · rename_i s hs
    simp only [Bool.and_eq_true, Bool.not_eq_true', beq_eq_false_iff_ne] at h
    exact ⟨s, hs, h.1, h.2⟩
  · cases h
theorem nameK (i : Int) (h2 : 2 ≤ i) (h17 : i < 17) (b : UInt8) : keyboard_Name_m ⟨i, b⟩ = ix glob_0 i := by
  obtain ⟨s, hs, _⟩ := kindN i h2 h17
  unfold keyboard_Name_m
  have h1 : ¬ i = 17 := by omega
  have h3 : ¬ i ≤ 1 := by omega
  have h4 : ¬ i > 17 := by omega
  simp [h1, h3, h4, hs]
theorem name17 (b : UInt8) : keyboard_Name_m ⟨17, b⟩ = keyboard_attention_m b := by
  obtain ⟨s, p, h, _⟩ := att b
  unfold keyboard_Name_m
  simp [h]
theorem nameO (i : Int) (h : i ≤ 1 ∨ 17 < i) (b : UInt8) : keyboard_Name_m ⟨i, b⟩ = some [] := by
  unfold keyboard_Name_m
  have h1 : ¬ i = 17 := by omega
  rcases h with h | h
  · simp [h1, h]
  · have h3 : ¬ i ≤ 1 := by omega
    have h4 : i > 17 := h
    simp [h1, h3, h4]
theorem w64_small (i : Int) (h0 : 0 ≤ i) (h : i < 1000) : w64 i = i := w64_of (by omega) (by omega)
/-- What is found bears the name. -/
def Good (name : List UInt8) (r : keyboard_Key × Bool) : Prop := r.2 = true ∧ keyboard_Name_m r.1 = some name ∧ name ≠ []
theorem l1_ok (name : List UInt8) : ∀ (n : Nat) (i : Int), 2 ≤ i → i ≤ 17 → 17 - i < n → ∃ r, keyboard_Named_l1 400 name n i = some r ∧ ∀ k, r = .inr k → Good name k := by
  intro n
  induction n with
  | zero => intro i _ _ h; omega
  | succ n ih =>
    intro i h2 h17 hn
    unfold keyboard_Named_l1
    by_cases h : i < 17
    · obtain ⟨s, hs, hne, _⟩ := kindN i h2 h
      have e := nameK i h2 h 0
      rw [hs] at e
      simp only [h, if_true, e, Option.bind_some]
      by_cases hq : s = name
      · refine ⟨_, by rw [if_pos hq], fun k hk => ?_⟩
        cases hk
        exact ⟨rfl, by rw [← hq]; exact e, by rw [← hq]; exact hne⟩
      · rw [if_neg hq, w64_small (i + 1) (by omega) (by omega)]
        exact ih (i + 1) (by omega) (by omega) (by omega)
    · simp only [h, if_false]
      exact ⟨_, rfl, fun k hk => by cases hk⟩
theorem l2_ok (name : List UInt8) : ∀ (n : Nat) (i : Int), 0 ≤ i → i ≤ 256 → 256 - i < n → ∃ r, keyboard_Named_l2 400 name n i = some r ∧ ∀ k, r = .inr k → Good name k := by
  intro n
  induction n with
  | zero => intro i _ _ h; omega
  | succ n ih =>
    intro i h2 h17 hn
    unfold keyboard_Named_l2
    by_cases h : i < 256
    · have hnext := ih (i + 1) (by omega) (by omega) (by omega)
      have hw := w64_small (i + 1) (by omega) (by omega)
      simp only [h, if_true]
      by_cases hne : name ≠ []
      · obtain ⟨s, p, hs, _⟩ := att (toB i)
        have e := name17 (toB i)
        rw [hs] at e
        simp only [hne, ne_eq, not_false_eq_true, if_true, e, Option.bind_some]
        by_cases hq : s = name
        · refine ⟨.inr (⟨17, toB i⟩, true), by simp [hq], fun k hk => ?_⟩
          cases hk
          exact ⟨rfl, by rw [← hq]; exact e, hne⟩
        · simp only [hq, decide_false, Bool.false_eq_true, if_false, hw]
          exact hnext
      · have hne' : name = [] := Decidable.byContradiction hne
        subst hne'
        simp only [ne_eq, not_true_eq_false, if_false, Option.bind_some, Bool.false_eq_true, hw]
        exact hnext
    · simp only [h, if_false]
      exact ⟨_, rfl, fun k hk => by cases hk⟩
theorem named (name : List UInt8) : ∃ r, keyboard_Named_m 400 name = some r ∧ (Good name r ∨ r = (⟨0, 0⟩, false)) := by
  obtain ⟨r1, e1, g1⟩ := l1_ok name 400 2 (by omega) (by omega) (by omega)
  unfold keyboard_Named_m
  rw [e1, Option.bind_some]
  cases r1 with
  | inr k => exact ⟨k, rfl, .inl (g1 k rfl)⟩
  | inl u =>
    obtain ⟨r2, e2, g2⟩ := l2_ok name 400 0 (by omega) (by omega) (by omega)
    simp only [onS, e2, Option.bind_some]
    cases r2 with
    | inr k => exact ⟨k, rfl, .inl (g2 k rfl)⟩
    | inl u => exact ⟨_, rfl, .inr rfl⟩
/-- The name of a key, by both. -/
theorem both (k : Int) (b : UInt8) : ∃ s, keyboard_Name_m ⟨k, b⟩ = some s ∧ ref22_Name_m 400 k b = some s ∧ chkB s = true := by
  by_cases h17 : k = 17
  · subst h17
    obtain ⟨s, p, h1, h2, _, h4, _⟩ := att b
    exact ⟨s, by rw [name17]; exact h1, by unfold ref22_Name_m; simp [h2], h4⟩
  · by_cases hr : 2 ≤ k ∧ k < 17
    · obtain ⟨s, hs, hne, hc⟩ := kindN k hr.1 hr.2
      refine ⟨s, by rw [nameK k hr.1 hr.2]; exact hs, ?_, hc⟩
      have h3 : ¬ k < 0 := by omega
      have h4 : ¬ k > 16 := by omega
      unfold ref22_Name_m
      have : ix glob_0 k = some s := hs
      unfold glob_0 at this
      simp only [h17, h3, h4, if_false, decide_false, Option.bind_some, Bool.false_eq_true, this]
    · refine ⟨[], nameO k (by omega) b, ?_, chk_nil⟩
      unfold ref22_Name_m
      by_cases h3 : k < 0
      · simp [h17, h3]
      · by_cases h4 : k > 16
        · simp [h17, h3, h4]
        · have : k = 0 ∨ k = 1 := by omega
          rcases this with rfl | rfl <;> rfl
theorem names_true (a0 : keyboard_Key) (a1 : List UInt8) : law22_KeyboardNames_m 400 a0 a1 = some true := by
  obtain ⟨k, b⟩ := a0
  obtain ⟨w, hn, hr, hc⟩ := both k b
  obtain ⟨s, p, ha1, ha2, ha3, _, hp⟩ := att b
  obtain ⟨r1, hN1, hG1⟩ := named w
  obtain ⟨r2, hN2, hG2⟩ := named a1
  have hok : r1.2 = decide (w ≠ []) := by
    unfold chkB at hc
    rw [hN1] at hc
    obtain ⟨k1, o1⟩ := r1
    simpa using hc
  have hshort : (if p ≠ [] then some (decide (b ≠ 125)) else some false) = some (decide (b = 109) || decide (b = 108) || decide (b = 110) || decide (b = 107)) := by
    rw [← hp]
    by_cases h : p = [] <;> simp [h]
  have h25 : (if b = 109 then some true else if b = 108 then some true else if b = 110 then some true else some (decide (b = 107))) = some (decide (b = 109) || decide (b = 108) || decide (b = 110) || decide (b = 107)) := by
    by_cases h1 : b = 109
    · simp [h1]
    · by_cases h2 : b = 108
      · simp [h1, h2]
      · by_cases h3 : b = 110
        · simp [h1, h2, h3]
        · simp [h1, h2, h3]
  have hx2 : (if w = [] then some false else (keyboard_Name_m r1.1).bind fun o37 => some (!decide (o37 = w))) = some false := by
    by_cases h : w = []
    · simp [h]
    · rcases hG1 with hg | hg
      · simp [h, hg.2.1]
      · subst hg
        simp [h] at hok
  unfold law22_KeyboardNames_m keyboard_Attention_m keyboard_Short_m
  simp only [alive_runs, hr, hn, ha1, ha2, ha3, hN1, hN2, Option.bind_some, hshort, h25, hok, ne_eq, not_true_eq_false, if_false, decide_false, Bool.false_eq_true, Bool.not_true]
  rcases hG2 with hg | hg
  · obtain ⟨g1, g2, g3⟩ := hg
    simp [g1, g2, g3, hx2]
  · subst hg
    simp [hx2]
end Go.Proofs.YtecipnjloenndaaGreatDoor.G
