/-
Of all inputs the law KeyboardResets holds: the statement of its card.
-/
import Derived.Test.YtecipnjloenndaaGreatDoorRows
import Derived.Test.YtecipnjloenndaaGreatDoorCards
import Derived.Test.YtecipnjloenndaaGreatDoorTie
import Derived.Test.YtecipnjloenndaaGreatDoorSXo
import Derived.Test.YtecipnjloenndaaGreatDoorKbV
import Derived.Test.YtecipnjloenndaaGreatDoorKbR
import Derived.ProofKit
import Derived.Carry
import Derived.OpenShut
import Derived.Handed
import Derived.JoinedOf
import Derived.Lay
import Derived.SevenTiedAt
import Derived.LaidMore
import Derived.LaidLaws
import Derived.LaidHandle
import Derived.MakeChecks
import Derived.Stop.Joined
set_option maxRecDepth 100000
set_option linter.unusedVariables false
namespace Go.Proofs.YtecipnjloenndaaGreatDoor.KeyboardResetsRow
open Go Go.ChangeShapes Go.WideShapes Go.ChangeAt Go.RowKit Go.Proofs.YtecipnjloenndaaGreatDoor.SX Go.Proofs.YtecipnjloenndaaGreatDoor.G Go.Proofs.YtecipnjloenndaaGreatDoor

theorem f33 : (Tryz.prog.fieldsOf 33).toList.map (fun (f : Field) => (f.type, f.offset, Tryz.prog.cellsOf f.type)) = [(3, 0, 1), (3, 1, 1)] := by kernel_rfl
theorem u33 : Tryz.prog.underlying 33 = some (.struct (Tryz.prog.fieldsOf 33)) := by kernel_rfl
theorem c33 : Tryz.prog.cellsOf 33 = 2 := by kernel_rfl
theorem u3 : Tryz.prog.underlying 3 = some (.int .i64) := by kernel_rfl
theorem c3 : Tryz.prog.cellsOf 3 = 1 := by kernel_rfl
theorem u34 : Tryz.prog.underlying 34 = some (.slice 51) := by kernel_rfl
theorem c34 : Tryz.prog.cellsOf 34 = 1 := by kernel_rfl
theorem f51 : (Tryz.prog.fieldsOf 51).toList.map (fun (f : Field) => (f.type, f.offset, Tryz.prog.cellsOf f.type)) = [(3, 0, 1), (23, 1, 2), (49, 3, 1)] := by kernel_rfl
theorem u51 : Tryz.prog.underlying 51 = some (.struct (Tryz.prog.fieldsOf 51)) := by kernel_rfl
theorem f23 : (Tryz.prog.fieldsOf 23).toList.map (fun (f : Field) => (f.type, f.offset, Tryz.prog.cellsOf f.type)) = [(3, 0, 1), (5, 1, 1)] := by kernel_rfl
theorem u23 : Tryz.prog.underlying 23 = some (.struct (Tryz.prog.fieldsOf 23)) := by kernel_rfl
theorem u5 : Tryz.prog.underlying 5 = some (.int .u8) := by kernel_rfl
theorem c5 : Tryz.prog.cellsOf 5 = 1 := by kernel_rfl
theorem u49 : Tryz.prog.underlying 49 = some (.slice 5) := by kernel_rfl
theorem c49 : Tryz.prog.cellsOf 49 = 1 := by kernel_rfl
theorem c51 : Tryz.prog.cellsOf 51 = 4 := by kernel_rfl
theorem u4 : Tryz.prog.underlying 4 = some .bool := by kernel_rfl
theorem pars : Tryz.f6.params = #[33, 33, 34] := by kernel_rfl
theorem ress : Tryz.f6.resultTypes = #[4] := by kernel_rfl
theorem op51 : Opens Tryz.prog 51 k_law22_Op := ⟨c51, fun enc W base sp held fuel cs x h => by
  obtain ⟨_, _, _, _, hlen, _, _⟩ := DataW.trod_struct u51 h
  rw [c51] at hlen
  obtain ⟨e0, e1, e2, e3, rfl⟩ : ∃ e0 e1 e2 e3, cs = [e0, e1, e2, e3] := by
    match cs, hlen with
    | [e0, e1, e2, e3], _ => exact ⟨e0, e1, e2, e3, rfl⟩
  obtain ⟨_, _, h0⟩ := open_fields u51 h 0 3 0 1 (by rw [← List.getElem?_map, f51]; rfl)
  obtain ⟨x0, g0⟩ := (opInt u3 c3).rd _ _ _ _ _ _ _ _ h0
  obtain rfl : e0 = .int .i64 x0 := by have := g0; simpa [kI, Kind.flat] using this
  obtain ⟨_, _, h1⟩ := open_fields u51 h 1 23 1 2 (by rw [← List.getElem?_map, f51]; rfl)
  obtain ⟨_, _, h2⟩ := open_fields u23 h1 0 3 0 1 (by rw [← List.getElem?_map, f23]; rfl)
  obtain ⟨x1, g1⟩ := (opInt u3 c3).rd _ _ _ _ _ _ _ _ h2
  obtain rfl : e1 = .int .i64 x1 := by have := g1; simpa [kI, Kind.flat] using this
  obtain ⟨_, _, h3⟩ := open_fields u23 h1 1 5 1 1 (by rw [← List.getElem?_map, f23]; rfl)
  obtain ⟨x2, g2⟩ := (opB u5 c5).rd _ _ _ _ _ _ _ _ h3
  obtain rfl : e2 = vB x2 := by have := g2; simpa [kB, Kind.flat] using this
  obtain ⟨_, _, h4⟩ := open_fields u51 h 2 49 3 1 (by rw [← List.getElem?_map, f51]; rfl)
  obtain ⟨x3, g3⟩ := (opSl u49 c49 (by decide) (opB u5 c5)).rd _ _ _ _ _ _ _ _ h4
  exact ⟨⟨x0, ⟨x1, x2⟩, x3⟩, e3, rfl, g3⟩⟩
theorem trodAll_n {H : Type} {enc : TypeId × Value → H} {W : World} {args : Array Value} {ds : List (DataW H)} {p : List MemPlace} (h : DataW.TrodAll enc Tryz.prog W 0 (fun _ => true) true [33, 33, 34] args.toList ds p) : ∃ v0 v1 v2 d0 d1 d2 p0 p1 p2, args = #[v0, v1, v2] ∧ DataW.Trod enc Tryz.prog W 0 (fun _ => true) true 33 v0 d0 p0 ∧ DataW.Trod enc Tryz.prog W 0 (fun _ => true) true 33 v1 d1 p1 ∧ DataW.Trod enc Tryz.prog W 0 (fun _ => true) true 34 v2 d2 p2 := by
  obtain ⟨args⟩ := args
  have r0 := h
  obtain ⟨v0, w0, d0, e0, p0, q0, a0, b0, h0, r1⟩ := trodAll_uncons r0
  obtain ⟨v1, w1, d1, e1, p1, q1, a1, b1, h1, r2⟩ := trodAll_uncons r1
  obtain ⟨v2, w2, d2, e2, p2, q2, a2, b2, h2, r3⟩ := trodAll_uncons r2
  have z := trodAll_unnil r3
  refine ⟨v0, v1, v2, d0, d1, d2, p0, p1, p2, ?_, h0, h1, h2⟩
  subst z a2 a1
  rw [show args = [v0, v1, v2] from a0]
theorem lifted (os : Os) (started : os.Started) (H : Type) (enc : TypeId × Value → H) :
    ReturnsInHanded {} Tryz.checked os 6 .any (fun w args => (Rows.keyboardResetsSpec.pre enc Tryz.prog Tryz.f6 [] false w args ∧ laidMetH Tryz.prog laid4 w) ∧ sizedMet enc Tryz.prog Tryz.f6 (OpenSpec.ofChange Rows.keyboardResetsSpec) false w args) (Rows.keyboardResetsSpec.post enc Tryz.prog Tryz.f6 false true false false) := by
  refine law_frameX (C := Tryz.checked) (tb := 4) (X := fun w => laidMetH Tryz.prog laid4 w) (fun _ _ hh h => h.of_heap hh) Tryz.own started (by kernel_rfl) Tryz.func6
    (ChangeSpec.witness_shaped (enc := enc) (C := Tryz.checked) (os := os) (X := fun w _ => laidMetH Tryz.prog laid4 w) false (World.laidAll Tryz.prog os laid4) #[.agg #[.int .i64 0, .int .i64 0], .agg #[.int .i64 0, .int .i64 0], .slice none 0 0] 8 (World.laidAll_os _ _ _) (World.shaped_of_ZipB (by kernel_rfl) (by kernel_rfl)) (by kernel_rfl) (by kernel_rfl) (by kernel_rfl) (laid_met os _))
    Tryz.laidOut ?_ ress u4 rfl ?_ ?_
  · intro t ht
    rw [pars] at ht
    have hall : ([33, 33, 34].all fun u => Tryz.prog.readableRec u && decide (u < Tryz.prog.types.size)) = true := by kernel_rfl
    have := List.all_eq_true.1 hall t (by simpa using ht)
    simp only [Bool.and_eq_true, decide_eq_true_eq] at this
    exact this
  · intro ds hd
    rw [pars] at hd
    match ds, hd with
    | [d0, d1, d2], _ => rfl
  intro W base args ds p hL hval hA
  have hA' : DataW.TrodAll enc Tryz.prog W 0 (fun _ => true) true Tryz.f6.params.toList args.toList ds p := hA
  have hval' : ∀ (j : Nat) t v, Tryz.f6.params[j]? = some t → args[j]? = some v → Value.okWide Tryz.prog W .any base t v := hval
  clear hval hA
  rw [pars] at hA' hval'
  obtain ⟨v0, v1, v2, d0, d1, d2, p0, p1, p2, rfl, h0, h1, h2⟩ := trodAll_n hA'
  have hval := hval'
  clear hval' hA'
  obtain ⟨tf, hg⟩ := of_laid hL
  obtain ⟨c00, c01, x0, y0, rfl, g00, g01⟩ := open_two u33 f33 c33 (opInt u3 c3) (opInt u3 c3) (hval 0 33 v0 rfl rfl) h0
  obtain rfl : c00 = .int .i64 x0 := by have := g00; simpa [kI, Kind.flat] using this
  obtain rfl : c01 = .int .i64 y0 := by have := g01; simpa [kI, Kind.flat] using this
  obtain ⟨c10, c11, x1, y1, rfl, g10, g11⟩ := open_two u33 f33 c33 (opInt u3 c3) (opInt u3 c3) (hval 1 33 v1 rfl rfl) h1
  obtain rfl : c10 = .int .i64 x1 := by have := g10; simpa [kI, Kind.flat] using this
  obtain rfl : c11 = .int .i64 y1 := by have := g11; simpa [kI, Kind.flat] using this
  obtain ⟨x2, g2⟩ := open_sl u34 (opSl u34 c34 (by decide) (op51)) (hval 2 34 v2 rfl rfl) h2
  refine (law22_KeyboardResets_c 1000 ⟨x0, y0⟩ ⟨x1, y1⟩ x2 v2 true (KeyboardResets_true ⟨x0, y0⟩ ⟨x1, y1⟩ x2 (Nat.le_trans (kSl_len g2) (by decide))) (hp W) PH.emp W (satRo g2 (satRo ⟨rfl, tf, hg⟩ satNil)) ⟨PH.le_emp _, PH.le_refl _, PH.emp_dis _⟩).mono ?_
  rintro e W' ⟨x, rfl, hst⟩
  exact ⟨rfl, SX.below_of hst⟩
theorem holds : Rows.KeyboardResetsSaid :=
  OpenClaim.holds_of_wide 6 Tryz.f6 rfl rfl rfl rfl rfl rfl rfl ⟨rfl, rfl, rfl, rfl, rfl⟩ rfl rfl rfl rfl rfl (by kernel_rfl) Tryz.func6 (by kernel_rfl)
    (of_decide_eq_true (by kernel_rfl)) (by unfold Func.isWrapper; first | (rw [if_pos (by decide +kernel)]; kernel_rfl) | (rw [if_neg (by decide +kernel)]; exact ⟨rfl, rfl⟩))
    (fun os started H enc _ => lifted os started H enc)
theorem card_holds : Rows.KeyboardResetsCardSaid :=
  Claim7.holds_tied_plain_at .later [] [.data, .data, .data, .data] true (true, "20c78df6b02ce5f4e599e9fa58c9386561155f8c7346b2603f5c6828feac630c") true
    holds (fun _ h => by cases h) (by kernel_rfl) (fun _ h => by cases h) keyboardResets_row_tie rfl ⟨rfl, rfl⟩ (by kernel_rfl) rfl
    (fun f fn hf hfn => by
      obtain rfl : f = 6 := Option.some.inj ((show Tryz.prog.funcNamed "greenscreen/greenscreenlaw22.KeyboardResets" = some 6 by kernel_rfl).symm.trans hf) |>.symm
      obtain rfl : fn = Tryz.f6 := (Option.some.inj (Tryz.func6.symm.trans hfn)).symm
      exact ⟨by kernel_rfl, fun j t ht => by
        rw [pars] at ht
        have hm : t ∈ [33, 33, 34] := by simpa using Array.mem_of_getElem? ht
        have hall : ([33, 33, 34].all fun u => !Tryz.prog.wantsStandIn u) = true := by kernel_rfl
        exact (show Tryz.prog.wantsStandIn t = false by simpa using List.all_eq_true.1 hall t hm)⟩)
    (by kernel_rfl)
end Go.Proofs.YtecipnjloenndaaGreatDoor.KeyboardResetsRow
namespace Go.Proofs.YtecipnjloenndaaGreatDoor
theorem keyboardResets_card_holds : Rows.KeyboardResetsCardSaid := KeyboardResetsRow.card_holds
end Go.Proofs.YtecipnjloenndaaGreatDoor
