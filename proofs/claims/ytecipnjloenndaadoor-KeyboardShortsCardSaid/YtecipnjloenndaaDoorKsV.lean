/-
The seat's package variables, as the rows lay them: where they lie, what they hold.
-/
import Derived.Test.YtecipnjloenndaaDoorRows
import Derived.Test.YtecipnjloenndaaDoorCards
import Derived.Test.YtecipnjloenndaaDoorTie
import Derived.Test.YtecipnjloenndaaDoorSXo
import Derived.Test.YtecipnjloenndaaDoorKsG0
import Derived.ProofKit
import Derived.Carry
import Derived.OpenShut
import Derived.ChangeMaps5
import Derived.SevenTiedAt
import Derived.Lay
import Derived.LaidMore
import Derived.LaidLaws
import Derived.LaidHandle
import Derived.MakeChecks
set_option maxRecDepth 100000
namespace Go.Proofs.YtecipnjloenndaaDoor
open Go Go.ChangeShapes Go.WideShapes Go.ChangeAt Go.RowKit Go.Proofs.YtecipnjloenndaaDoor.SX Go.Proofs.YtecipnjloenndaaDoor.G

theorem Tryd.own : ownKnob Tryd.prog.godebug = none := by kernel_rfl
theorem Tryd.laidOut : laidOutB Tryd.prog = true := by kernel_rfl
def laid4 : List (String × DataW Unit) := [("math/bits.deBruijn32tab", Rows.laid_math_bits_deBruijn32tab), ("math/bits.deBruijn64tab", Rows.laid_math_bits_deBruijn64tab), ("internal/strconv.uint64pow10", Rows.laid_internal_strconv_uint64pow10), ("greenscreen/keyboard.names", Rows.laid_greenscreen_keyboard_names)]
theorem gNames : Tryd.prog.globalNamed "greenscreen/keyboard.names" = some 0 := by kernel_rfl
theorem tNames : (Tryd.prog.globals[0]?).map (·.type) = some 53 := by kernel_rfl
theorem uNames : Tryd.prog.underlying 53 = some (.array 17 9) := by kernel_rfl
theorem uStr : Tryd.prog.underlying 9 = some .string := by kernel_rfl
theorem c9 : Tryd.prog.cellsOf 9 = 1 := by kernel_rfl
theorem c53 : Tryd.prog.cellsOf 53 = 17 := by kernel_rfl
/-- What the condition gives: the variable's block. -/
theorem of_laid {W : World} (h : laidMetH Tryd.prog laid4 W) : ∃ tf : TypeId × (Nat × Nat), hp W 0 = some (.cells (glob_0.map vS).toArray tf.1 tf.2) := by
  rw [MakeChecks.laidMetH_plain _ _ _ (by kernel_rfl)] at h
  obtain ⟨ps, ⟨g0, t0, cs0, f0, p0, q0, hg0, ht0, hv0, hd0, ⟨g1, t1, cs1, f1, p1, q1, hg1, ht1, hv1, hd1, ⟨g2, t2, cs2, f2, p2, q2, hg2, ht2, hv2, hd2, ⟨g3, t3, cs3, f3, p3, q3, hg3, ht3, hv3, hd3, _, _⟩, _⟩, _⟩, _⟩, _, _⟩ := h
  obtain rfl := Option.some.inj (gNames.symm.trans hg3)
  obtain rfl := Option.some.inj (tNames.symm.trans ht3)
  obtain ⟨t, fr, hb⟩ : ∃ t fr, W.heap[0]? = some (.cells cs3 t fr) := by
    unfold World.var? at hv3
    rw [gNames] at hv3
    simp only [Option.bind_some] at hv3
    split at hv3
    · rename_i c t fr hb
      cases hv3
      exact ⟨t, fr, hb⟩
    · cases hv3
  obtain ⟨xs, m1, rfl, hx1, hlen, hn, hel⟩ := DataW.trod_array uNames hd3
  refine ⟨(t, fr), ?_⟩
  show W.heap[0]? = _
  rw [hb]
  have hx := (Prod.mk.inj hx1).1
  have hxs : xs.map (·.1) = glob_0.map fun b => (DataW.lit (.string b) : DataW Unit) := by
    have h1 := hx
    unfold Rows.laid_greenscreen_keyboard_names at h1
    have h2 := DataW.agg.inj h1
    rw [← h2]
    rfl
  have hcs : cs3.toList = glob_0.map vS := by
    rw [c53] at hlen
    apply List.ext_getElem?
    intro i
    by_cases hi : i < 17
    · have h1 := hel i hi
      rw [c9] at h1
      have hxi : xs[i]? = some (xs[i]'(by omega)) := List.getElem?_eq_getElem (by omega)
      rw [hxi] at h1
      obtain ⟨s, e1, e2, _⟩ := DataW.trod_string uStr h1
      have h3 : (xs.map (·.1))[i]? = some (.lit (.string s.data.toList)) := by rw [List.getElem?_map, hxi]; simp [e2]
      rw [hxs, List.getElem?_map] at h3
      obtain ⟨b, hb1, hb2⟩ := Option.map_eq_some_iff.1 h3
      have hb3 : b = s.data.toList := by injection hb2 with hb2; injection hb2
      have h4 : cs3.toList[i]? = some (.string s) := by
        have := congrArg (·[0]?) e1
        simpa [List.getElem?_take, List.getElem?_drop] using this
      rw [h4, List.getElem?_map, hb1, hb3]
      simp [vS]
    · rw [List.getElem?_eq_none (by omega), List.getElem?_eq_none (by simp [glob_0]; omega)]
  rw [← hcs]
theorem laid_met (os : Os) (args : Array Value) : laidMetH Tryd.prog laid4 ((World.laidAll Tryd.prog os laid4).forCall (fun _ _ => 0) ⟨#[], args, []⟩).memory := by
  rw [MakeChecks.laidMetH_plain _ _ _ (by kernel_rfl)]
  exact laidMet_laidAll _ (by kernel_rfl) (by kernel_rfl)
end Go.Proofs.YtecipnjloenndaaDoor
