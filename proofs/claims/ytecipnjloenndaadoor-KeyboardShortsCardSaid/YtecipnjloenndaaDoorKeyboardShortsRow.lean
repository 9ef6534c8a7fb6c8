/-
Of all inputs the law KeyboardShorts holds: the statement of its card.
-/
import Derived.Test.YtecipnjloenndaaDoorRows
import Derived.Test.YtecipnjloenndaaDoorCards
import Derived.Test.YtecipnjloenndaaDoorTie
import Derived.Test.YtecipnjloenndaaDoorSXo
import Derived.Test.YtecipnjloenndaaDoorKsV
import Derived.Test.YtecipnjloenndaaDoorKsL
import Derived.ProofKit
import Derived.Carry
import Derived.OpenShut
import Derived.Handed
import Derived.JoinedOf
import Derived.Lay
import Derived.SevenTiedAt
import Derived.LaidMore
import Derived.LaidLaws
import Derived.LaidHandle
import Derived.MakeChecks
import Derived.Stop.Joined
set_option maxRecDepth 100000
set_option linter.unusedVariables false
namespace Go.Proofs.YtecipnjloenndaaDoor.KeyboardShortsRow
open Go Go.ChangeShapes Go.WideShapes Go.ChangeAt Go.RowKit Go.Proofs.YtecipnjloenndaaDoor.SX Go.Proofs.YtecipnjloenndaaDoor.G Go.Proofs.YtecipnjloenndaaDoor

theorem u3 : Tryd.prog.underlying 3 = some (.int .i64) := by kernel_rfl
theorem u4 : Tryd.prog.underlying 4 = some .bool := by kernel_rfl
theorem pars : Tryd.f3.params = #[3] := by kernel_rfl
theorem ress : Tryd.f3.resultTypes = #[4] := by kernel_rfl
theorem trodAll_n {H : Type} {enc : TypeId × Value → H} {W : World} {args : Array Value} {ds : List (DataW H)} {p : List MemPlace} (h : DataW.TrodAll enc Tryd.prog W 0 (fun _ => true) true [3] args.toList ds p) : ∃ v0 d0 p0, args = #[v0] ∧ DataW.Trod enc Tryd.prog W 0 (fun _ => true) true 3 v0 d0 p0 := by
  obtain ⟨args⟩ := args
  have r0 := h
  obtain ⟨v0, w0, d0, e0, p0, q0, a0, b0, h0, r1⟩ := trodAll_uncons r0
  have z := trodAll_unnil r1
  refine ⟨v0, d0, p0, ?_, h0⟩
  subst z 
  rw [show args = [v0] from a0]
theorem lifted (os : Os) (started : os.Started) (H : Type) (enc : TypeId × Value → H) :
    ReturnsInHanded {} Tryd.checked os 3 .any (fun w args => (Rows.keyboardShortsSpec.pre enc Tryd.prog Tryd.f3 [] false w args ∧ laidMetH Tryd.prog laid4 w) ∧ sizedMet enc Tryd.prog Tryd.f3 (OpenSpec.ofChange Rows.keyboardShortsSpec) false w args) (Rows.keyboardShortsSpec.post enc Tryd.prog Tryd.f3 false true false false) := by
  refine law_frameX (C := Tryd.checked) (tb := 4) (X := fun w => laidMetH Tryd.prog laid4 w) (fun _ _ hh h => h.of_heap hh) Tryd.own started (by kernel_rfl) Tryd.func3
    (ChangeSpec.witness_shaped (enc := enc) (C := Tryd.checked) (os := os) (X := fun w _ => laidMetH Tryd.prog laid4 w) false (World.laidAll Tryd.prog os laid4) #[.int .i64 0] 8 (World.laidAll_os _ _ _) (World.shaped_of_ZipB (by kernel_rfl) (by kernel_rfl)) (by kernel_rfl) (by kernel_rfl) (by kernel_rfl) (laid_met os _))
    Tryd.laidOut ?_ ress u4 rfl ?_ ?_
  · intro t ht
    rw [pars] at ht
    have hall : ([3].all fun u => Tryd.prog.readableRec u && decide (u < Tryd.prog.types.size)) = true := by kernel_rfl
    have := List.all_eq_true.1 hall t (by simpa using ht)
    simp only [Bool.and_eq_true, decide_eq_true_eq] at this
    exact this
  · intro ds hd
    rw [pars] at hd
    match ds, hd with
    | [d0], _ => rfl
  intro W base args ds p hL hval hA
  have hA' : DataW.TrodAll enc Tryd.prog W 0 (fun _ => true) true Tryd.f3.params.toList args.toList ds p := hA
  have hval' : ∀ (j : Nat) t v, Tryd.f3.params[j]? = some t → args[j]? = some v → Value.okWide Tryd.prog W .any base t v := hval
  clear hval hA
  rw [pars] at hA' hval'
  obtain ⟨v0, d0, p0, rfl, h0⟩ := trodAll_n hA'
  have hval := hval'
  clear hval' hA'
  obtain ⟨tf, hg⟩ := of_laid hL
  obtain ⟨x0, rfl⟩ := okWide_int u3 (hval 0 3 v0 rfl rfl)
  refine (law22_KeyboardShorts_c 1000 x0 true (KeyboardShorts_true x0 ) (hp W) PH.emp W (satRo ⟨rfl, tf, hg⟩ satNil) ⟨PH.le_emp _, PH.le_refl _, PH.emp_dis _⟩).mono ?_
  rintro e W' ⟨x, rfl, hst⟩
  exact ⟨rfl, SX.below_of hst⟩
theorem holds : Rows.KeyboardShortsSaid :=
  OpenClaim.holds_of_wide 3 Tryd.f3 rfl rfl rfl rfl rfl rfl rfl ⟨rfl, rfl, rfl, rfl, rfl⟩ rfl rfl rfl rfl rfl (by kernel_rfl) Tryd.func3 (by kernel_rfl)
    (of_decide_eq_true (by kernel_rfl)) (by unfold Func.isWrapper; first | (rw [if_pos (by decide +kernel)]; kernel_rfl) | (rw [if_neg (by decide +kernel)]; exact ⟨rfl, rfl⟩))
    (fun os started H enc _ => lifted os started H enc)
theorem card_holds : Rows.KeyboardShortsCardSaid :=
  Claim7.holds_tied_plain_at .later [] [.data, .data, .data, .data] true (true, "c5866200398a0315dba57952aa2652402cf8c06f96581e54904a63fefb33a968") false
    holds (fun _ h => by cases h) (by kernel_rfl) (fun _ h => by cases h) keyboardShorts_row_tie rfl ⟨rfl, rfl⟩ (by kernel_rfl) rfl
    (fun f fn hf hfn => by
      obtain rfl : f = 3 := Option.some.inj ((show Tryd.prog.funcNamed "greenscreen/greenscreenlaw22.KeyboardShorts" = some 3 by kernel_rfl).symm.trans hf) |>.symm
      obtain rfl : fn = Tryd.f3 := (Option.some.inj (Tryd.func3.symm.trans hfn)).symm
      exact ⟨by kernel_rfl, fun j t ht => by
        rw [pars] at ht
        have hm : t ∈ [3] := by simpa using Array.mem_of_getElem? ht
        have hall : ([3].all fun u => !Tryd.prog.wantsStandIn u) = true := by kernel_rfl
        exact (show Tryd.prog.wantsStandIn t = false by simpa using List.all_eq_true.1 hall t hm)⟩)
    (by kernel_rfl)
end Go.Proofs.YtecipnjloenndaaDoor.KeyboardShortsRow
namespace Go.Proofs.YtecipnjloenndaaDoor
theorem keyboardShorts_card_holds : Rows.KeyboardShortsCardSaid := KeyboardShortsRow.card_holds
end Go.Proofs.YtecipnjloenndaaDoor
