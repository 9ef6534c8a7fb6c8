/-
Of all inputs the law ScreenFields holds: the statement of its row.
-/
import Derived.Test.YtecipnjloenndaaRows
import Derived.Test.YtecipnjloenndaaSXo
import Derived.Test.YtecipnjloenndaaScrH
import Derived.ProofKit
import Derived.Carry
import Derived.OpenShut
import Derived.Handed
import Derived.JoinedOf
import Derived.Lay
set_option maxRecDepth 100000
set_option linter.unusedVariables false
namespace Go.Proofs.Ytecipnjloenndaa.ScreenFieldsRow
open Go Go.ChangeShapes Go.WideShapes Go.ChangeAt Go.RowKit Go.Proofs.Ytecipnjloenndaa.SX Go.Proofs.Ytecipnjloenndaa.G Go.Proofs.Ytecipnjloenndaa

theorem own : ownKnob Try.prog.godebug = none := by kernel_rfl
theorem laidOut : laidOutB Try.prog = true := by kernel_rfl
theorem u23 : Try.prog.underlying 23 = some (.struct (Try.prog.fieldsOf 23)) := by kernel_rfl
theorem f23 : (Try.prog.fieldsOf 23).toList.map (fun (f : Field) => (f.type, f.offset, Try.prog.cellsOf f.type)) = [(3, 0, 1), (3, 1, 1)] := by kernel_rfl
theorem c23 : Try.prog.cellsOf 23 = 2 := by kernel_rfl
theorem u3 : Try.prog.underlying 3 = some (.int .i64) := by kernel_rfl
theorem c3 : Try.prog.cellsOf 3 = 1 := by kernel_rfl
theorem u24 : Try.prog.underlying 24 = some (.slice 34) := by kernel_rfl
theorem c24 : Try.prog.cellsOf 24 = 1 := by kernel_rfl
theorem u34 : Try.prog.underlying 34 = some (.slice 5) := by kernel_rfl
theorem c34 : Try.prog.cellsOf 34 = 1 := by kernel_rfl
theorem u5 : Try.prog.underlying 5 = some (.int .u8) := by kernel_rfl
theorem c5 : Try.prog.cellsOf 5 = 1 := by kernel_rfl
theorem u4 : Try.prog.underlying 4 = some .bool := by kernel_rfl
theorem pars : Try.f5.params = #[23, 23, 24] := by kernel_rfl
theorem ress : Try.f5.resultTypes = #[4] := by kernel_rfl
theorem trodAll_n {H : Type} {enc : TypeId × Value → H} {W : World} {args : Array Value} {ds : List (DataW H)} {p : List MemPlace} (h : DataW.TrodAll enc Try.prog W 0 (fun _ => true) true [23, 23, 24] args.toList ds p) : ∃ v0 v1 v2 d0 d1 d2 p0 p1 p2, args = #[v0, v1, v2] ∧ DataW.Trod enc Try.prog W 0 (fun _ => true) true 23 v0 d0 p0 ∧ DataW.Trod enc Try.prog W 0 (fun _ => true) true 23 v1 d1 p1 ∧ DataW.Trod enc Try.prog W 0 (fun _ => true) true 24 v2 d2 p2 := by
  obtain ⟨args⟩ := args
  have r0 := h
  obtain ⟨v0, w0, d0, e0, p0, q0, a0, b0, h0, r1⟩ := trodAll_uncons r0
  obtain ⟨v1, w1, d1, e1, p1, q1, a1, b1, h1, r2⟩ := trodAll_uncons r1
  obtain ⟨v2, w2, d2, e2, p2, q2, a2, b2, h2, r3⟩ := trodAll_uncons r2
  have z := trodAll_unnil r3
  refine ⟨v0, v1, v2, d0, d1, d2, p0, p1, p2, ?_, h0, h1, h2⟩
  subst z a2 a1
  rw [show args = [v0, v1, v2] from a0]
theorem lifted (os : Os) (started : os.Started) (H : Type) (enc : TypeId × Value → H) :
    ReturnsInHanded {} Try.checked os 5 .any (Rows.screenFieldsSpec.pre6 enc Try.prog Try.f5 [] false) (Rows.screenFieldsSpec.post enc Try.prog Try.f5 false true false false) := by
  refine law_frame (C := Try.checked) (tb := 4) own started (by kernel_rfl) Try.func5
    (ChangeSpec.witness6 (enc := enc) (C := Try.checked) false ⟨#[], #[.agg #[.int .i64 0, .int .i64 0], .agg #[.int .i64 0, .int .i64 0], .slice none 0 0], []⟩ 8 (by kernel_rfl) (by kernel_rfl) (by kernel_rfl) (by kernel_rfl))
    laidOut ?_ ress u4 rfl ?_ ?_
  · intro t ht
    rw [pars] at ht
    have hall : ([23, 23, 24].all fun u => Try.prog.readableRec u && decide (u < Try.prog.types.size)) = true := by kernel_rfl
    have := List.all_eq_true.1 hall t (by simpa using ht)
    simp only [Bool.and_eq_true, decide_eq_true_eq] at this
    exact this
  · intro ds hd
    rw [pars] at hd
    match ds, hd with
    | [d0, d1, d2], _ => rfl
  intro W base args ds p hval hA
  have hA' : DataW.TrodAll enc Try.prog W 0 (fun _ => true) true Try.f5.params.toList args.toList ds p := hA
  have hval' : ∀ (j : Nat) t v, Try.f5.params[j]? = some t → args[j]? = some v → Value.okWide Try.prog W .any base t v := hval
  clear hval hA
  rw [pars] at hA' hval'
  obtain ⟨v0, v1, v2, d0, d1, d2, p0, p1, p2, rfl, h0, h1, h2⟩ := trodAll_n hA'
  have hval := hval'
  clear hval' hA'
  obtain ⟨c00, c01, x0, y0, rfl, g00, g01⟩ := open_two u23 f23 c23 (opInt u3 c3) (opInt u3 c3) (hval 0 23 v0 rfl rfl) h0
  obtain rfl : c00 = .int .i64 x0 := by have := g00; simpa [kI, Kind.flat] using this
  obtain rfl : c01 = .int .i64 y0 := by have := g01; simpa [kI, Kind.flat] using this
  obtain ⟨c10, c11, x1, y1, rfl, g10, g11⟩ := open_two u23 f23 c23 (opInt u3 c3) (opInt u3 c3) (hval 1 23 v1 rfl rfl) h1
  obtain rfl : c10 = .int .i64 x1 := by have := g10; simpa [kI, Kind.flat] using this
  obtain rfl : c11 = .int .i64 y1 := by have := g11; simpa [kI, Kind.flat] using this
  obtain ⟨x2, g2⟩ := open_sl u24 (opSl u24 c24 (by decide) (opSl u34 c34 (by decide) (opB u5 c5))) (hval 2 24 v2 rfl rfl) h2
  refine (law18_ScreenFields_c 1000 ⟨x0, y0⟩ ⟨x1, y1⟩ x2 v2 true (ScreenFields_true ⟨x0, y0⟩ ⟨x1, y1⟩ x2) (hp W) PH.emp W (satRo g2 satNil) ⟨PH.le_emp _, PH.le_refl _, PH.emp_dis _⟩).mono ?_
  rintro e W' ⟨x, rfl, hst⟩
  exact ⟨rfl, below_of hst⟩
theorem holds : Rows.ScreenFieldsSaid :=
  OpenClaim.holds_of_wide 5 Try.f5 rfl rfl rfl rfl rfl rfl rfl ⟨rfl, rfl, rfl, rfl, rfl⟩ rfl rfl rfl rfl rfl (by kernel_rfl) Try.func5 (by kernel_rfl)
    (of_decide_eq_true (by kernel_rfl)) (by unfold Func.isWrapper; first | (rw [if_pos (by decide +kernel)]; kernel_rfl) | (rw [if_neg (by decide +kernel)]; exact ⟨rfl, rfl⟩))
    (fun os started H enc _ => lifted os started H enc)
end Go.Proofs.Ytecipnjloenndaa.ScreenFieldsRow
namespace Go.Proofs.Ytecipnjloenndaa
theorem screenFields_holds : Rows.ScreenFieldsSaid := ScreenFieldsRow.holds
end Go.Proofs.Ytecipnjloenndaa
