/-
Of all keys and names the keyboard's names are as the document says: for every key and every string, as the row of KeyboardNames states.
-/
import Derived.Test.YtecipnjloenndaaGreatDoorRows
import Derived.Test.YtecipnjloenndaaGreatDoorNamesLaw
import Derived.ProofKit
import Derived.Carry
import Derived.OpenShut
import Derived.ChangeMaps5
import Derived.SevenTiedAt
import Derived.Test.YtecipnjloenndaaGreatDoorCards
import Derived.Test.YtecipnjloenndaaGreatDoorTie
import Derived.Lay
import Derived.LaidMore
import Derived.LaidLaws
import Derived.LaidHandle
import Derived.MakeChecks
import Derived.Stop.Joined
set_option maxRecDepth 100000
namespace Go.Proofs.YtecipnjloenndaaGreatDoor
open Go Go.ChangeShapes Go.WideShapes Go.ChangeAt Go.RowKit Go.Proofs.YtecipnjloenndaaGreatDoor.SX Go.Proofs.YtecipnjloenndaaGreatDoor.G

theorem Tryz.own : ownKnob Tryz.prog.godebug = none := by kernel_rfl
theorem Tryz.laidOut : laidOutB Tryz.prog = true := by kernel_rfl
def laid4 : List (String × DataW Unit) := [("math/bits.deBruijn32tab", Rows.laid_math_bits_deBruijn32tab), ("math/bits.deBruijn64tab", Rows.laid_math_bits_deBruijn64tab), ("internal/strconv.uint64pow10", Rows.laid_internal_strconv_uint64pow10), ("greenscreen/keyboard.names", Rows.laid_greenscreen_keyboard_names)]
theorem gNames : Tryz.prog.globalNamed "greenscreen/keyboard.names" = some 0 := by kernel_rfl
theorem tNames : (Tryz.prog.globals[0]?).map (·.type) = some 83 := by kernel_rfl
theorem uNames : Tryz.prog.underlying 83 = some (.array 17 9) := by kernel_rfl
theorem uStr : Tryz.prog.underlying 9 = some .string := by kernel_rfl
theorem c9 : Tryz.prog.cellsOf 9 = 1 := by kernel_rfl
theorem c83 : Tryz.prog.cellsOf 83 = 17 := by kernel_rfl
/-- What the condition gives: the variable's block. -/
theorem of_laid {W : World} (h : laidMetH Tryz.prog laid4 W) : ∃ tf : TypeId × (Nat × Nat), hp W 0 = some (.cells (glob_0.map vS).toArray tf.1 tf.2) := by
  rw [MakeChecks.laidMetH_plain _ _ _ (by kernel_rfl)] at h
  obtain ⟨ps, ⟨g0, t0, cs0, f0, p0, q0, hg0, ht0, hv0, hd0, ⟨g1, t1, cs1, f1, p1, q1, hg1, ht1, hv1, hd1, ⟨g2, t2, cs2, f2, p2, q2, hg2, ht2, hv2, hd2, ⟨g3, t3, cs3, f3, p3, q3, hg3, ht3, hv3, hd3, _, _⟩, _⟩, _⟩, _⟩, _, _⟩ := h
  obtain rfl := Option.some.inj (gNames.symm.trans hg3)
  obtain rfl := Option.some.inj (tNames.symm.trans ht3)
  obtain ⟨t, fr, hb⟩ : ∃ t fr, W.heap[0]? = some (.cells cs3 t fr) := by
    unfold World.var? at hv3
    rw [gNames] at hv3
    simp only [Option.bind_some] at hv3
    split at hv3
    · rename_i c t fr hb
      cases hv3
      exact ⟨t, fr, hb⟩
    · cases hv3
  obtain ⟨xs, m1, rfl, hx1, hlen, hn, hel⟩ := DataW.trod_array uNames hd3
  refine ⟨(t, fr), ?_⟩
  show W.heap[0]? = _
  rw [hb]
  have hx := (Prod.mk.inj hx1).1
  have hxs : xs.map (·.1) = glob_0.map fun b => (DataW.lit (.string b) : DataW Unit) := by
    have h1 := hx
    unfold Rows.laid_greenscreen_keyboard_names at h1
    have h2 := DataW.agg.inj h1
    rw [← h2]
    rfl
  have hcs : cs3.toList = glob_0.map vS := by
    rw [c83] at hlen
    apply List.ext_getElem?
    intro i
    by_cases hi : i < 17
    · have h1 := hel i hi
      rw [c9] at h1
      have hxi : xs[i]? = some (xs[i]'(by omega)) := List.getElem?_eq_getElem (by omega)
      rw [hxi] at h1
      obtain ⟨s, e1, e2, _⟩ := DataW.trod_string uStr h1
      have h3 : (xs.map (·.1))[i]? = some (.lit (.string s.data.toList)) := by rw [List.getElem?_map, hxi]; simp [e2]
      rw [hxs, List.getElem?_map] at h3
      obtain ⟨b, hb1, hb2⟩ := Option.map_eq_some_iff.1 h3
      have hb3 : b = s.data.toList := by injection hb2 with hb2; injection hb2
      have h4 : cs3.toList[i]? = some (.string s) := by
        have := congrArg (·[0]?) e1
        simpa [List.getElem?_take, List.getElem?_drop] using this
      rw [h4, List.getElem?_map, hb1, hb3]
      simp [vS]
    · rw [List.getElem?_eq_none (by omega), List.getElem?_eq_none (by simp [glob_0]; omega)]
  rw [← hcs]
/-- What is behind the call: all that was lies as it lay. -/
theorem below_of {W W' : World} {R : PH} (h : St PH.emp R W W' []) : Below W.heap.size W W' :=
  ⟨h.os, h.tape, h.output, h.size, fun k hk => by
    obtain ⟨_, _, _, _, _, _, _, hh⟩ := h.ex
    exact (hh k hk rfl).1⟩
theorem runs (k : Int) (b : UInt8) (s : List UInt8) (W : World) (hg : ∃ tf : TypeId × (Nat × Nat), hp W 0 = some (.cells (glob_0.map vS).toArray tf.1 tf.2)) :
    Calls Tryz.prog 3 #[.agg #[.int .i64 k, vB b], vS s] W fun e W' => e = .returned (.bool true) ∧ Below W.heap.size W W' := by
  obtain ⟨tf, hg⟩ := hg
  have hle : (PH.one 0 (.cells (glob_0.map vS).toArray tf.1 tf.2)).le (hp W) := PH.one_le hg
  refine (law22_KeyboardNames_c 400 ⟨k, b⟩ s true (names_true ⟨k, b⟩ s) (PH.one 0 (.cells (glob_0.map vS).toArray tf.1 tf.2)) PH.emp W (satRo ⟨rfl, tf, PH.one_same _ _⟩ satNil) ⟨PH.le_emp _, hle, PH.emp_dis _⟩).mono ?_
  rintro e W' ⟨x, rfl, hst⟩
  exact ⟨rfl, below_of hst⟩
theorem uKey : Tryz.prog.underlying 23 = some (.struct (Tryz.prog.fieldsOf 23)) := by kernel_rfl
theorem uInt : Tryz.prog.underlying 3 = some (.int .i64) := by kernel_rfl
theorem uByte : Tryz.prog.underlying 5 = some (.int .u8) := by kernel_rfl
theorem uBool : Tryz.prog.underlying 4 = some .bool := by kernel_rfl
theorem fKey : (Tryz.prog.fieldsOf 23).toList.map (fun f => (f.type, f.offset, Tryz.prog.cellsOf f.type)) = [(3, 0, 1), (5, 1, 1)] := by kernel_rfl
theorem cKey : Tryz.prog.cellsOf 23 = 2 := by kernel_rfl
theorem pars : Tryz.f3.params = #[23, 9] := by kernel_rfl
theorem ress : Tryz.f3.resultTypes = #[4] := by kernel_rfl
/-- A key, opened. -/
theorem open_key {H : Type} {enc : TypeId × Value → H} {W : World} {base b0 : Nat} {sp : Nat → Bool} {held : Bool} {v : Value} {d : DataW H} {ps : List MemPlace} (hval : Value.okWide Tryz.prog W .any b0 23 v) (hd : DataW.Trod enc Tryz.prog W base sp held 23 v d ps) :
    ∃ (k : Int) (b : UInt8), v = .agg #[.int .i64 k, vB b] := by
  obtain ⟨cs, rfl, hsz⟩ := okWide_struct uKey hval
  obtain ⟨fuel, hf⟩ := hd
  obtain ⟨xs, n, rfl, _, hlen, hxs, hel⟩ := DataW.trod_struct uKey hf
  have hl2 : (Tryz.prog.fieldsOf 23).size = 2 := by
    have := congrArg List.length fKey
    simpa using this
  have hfi : ∀ i t o, (i, t, o) ∈ [(0, 3, 0), (1, 5, 1)] → ∃ f, (Tryz.prog.fieldsOf 23)[i]? = some f ∧ f.type = t ∧ f.offset = o ∧ Tryz.prog.cellsOf f.type = 1 := by
    intro i t o hm
    have h2 : (Tryz.prog.fieldsOf 23).toList[i]?.map (fun f => (f.type, f.offset, Tryz.prog.cellsOf f.type)) = some (t, o, 1) := by
      rw [← List.getElem?_map, fKey]
      simp only [List.mem_cons, Prod.mk.injEq, List.not_mem_nil, or_false] at hm
      rcases hm with ⟨rfl, rfl, rfl⟩ | ⟨rfl, rfl, rfl⟩ <;> rfl
    obtain ⟨f, hf, e⟩ := Option.map_eq_some_iff.1 h2
    simp only [Prod.mk.injEq] at e
    exact ⟨f, by simpa using hf, e.1, e.2.1, e.2.2⟩
  obtain ⟨f0, e0, t0, o0, z0⟩ := hfi 0 3 0 (by simp)
  obtain ⟨f1, e1, t1, o1, z1⟩ := hfi 1 5 1 (by simp)
  have h0 := hel 0 f0 e0
  have h1 := hel 1 f1 e1
  rw [z0, o0, t0, List.getElem?_eq_getElem (by omega)] at h0
  rw [z1, o1, t1, List.getElem?_eq_getElem (by omega)] at h1
  obtain ⟨k, c0, _, _⟩ := DataW.trod_int uInt h0
  obtain ⟨n1, c1, _, w1⟩ := DataW.trod_int uByte h1
  have hb : ∃ b : UInt8, n1 = (b.toNat : Int) := by
    have hw : 0 ≤ n1 ∧ n1 < 256 := by
      simp [Lit.wf, IntKind.min, IntKind.max, IntKind.signed, IntKind.bits] at w1
      omega
    exact ⟨UInt8.ofNat n1.toNat, by rw [UInt8.toNat_ofNat']; omega⟩
  obtain ⟨b, rfl⟩ := hb
  refine ⟨k, b, ?_⟩
  have hcs : cs.toList = [.int .i64 k, .int .u8 (b.toNat : Int)] := by
    rw [cKey] at hlen
    simp only [Value.cells] at hlen c0 c1
    match hq : cs.toList, hlen with
    | [x, y], _ =>
      rw [hq] at c0 c1
      simp at c0 c1
      rw [c0, c1]
  have : cs = #[.int .i64 k, .int .u8 (b.toNat : Int)] := by
    apply Array.ext'
    simpa using hcs
  rw [this]
  rfl
theorem laid_met (os : Os) (args : Array Value) : laidMetH Tryz.prog laid4 ((World.laidAll Tryz.prog os laid4).forCall (fun _ _ => 0) ⟨#[], args, []⟩).memory := by
  rw [MakeChecks.laidMetH_plain _ _ _ (by kernel_rfl)]
  exact laidMet_laidAll _ (by kernel_rfl) (by kernel_rfl)
set_option maxRecDepth 100000 in
theorem names_lifted (os : Os) (started : os.Started) (H : Type) (enc : TypeId × Value → H) :
    ReturnsInHanded {} Tryz.checked os 3 .any (fun w args => (Rows.keyboardNamesSpec.pre enc Tryz.prog Tryz.f3 [] false w args ∧ laidMetH Tryz.prog laid4 w) ∧ sizedMet enc Tryz.prog Tryz.f3 (OpenSpec.ofChange Rows.keyboardNamesSpec) false w args)
      (Rows.keyboardNamesSpec.post enc Tryz.prog Tryz.f3 false true false false) := by
  refine returnsInHanded_of_change_and (C := Tryz.checked) (X := fun w _ => laidMetH Tryz.prog laid4 w) (fun _ _ _ hh h => h.of_heap hh) Tryz.own started (by kernel_rfl) Tryz.func3
    (ChangeSpec.witness_shaped (enc := enc) (C := Tryz.checked) (os := os) (X := fun w _ => laidMetH Tryz.prog laid4 w) false (World.laidAll Tryz.prog os laid4) #[.agg #[.int .i64 0, .int .u8 0], .string ⟨#[]⟩] 8 (World.laidAll_os _ _ _) (World.shaped_of_ZipB (by kernel_rfl) (by kernel_rfl)) (by kernel_rfl) (by kernel_rfl) (by kernel_rfl) (laid_met os _)) ?_
  intro W base args ds gs before hval0 hW _ _ hL _
  have hval : ∀ (j : Nat) t v, Tryz.f3.params[j]? = some t → args[j]? = some v → Value.okWide Tryz.prog W .any base t v := hval0
  have hW' := hW
  obtain ⟨p, q, hA0, hV, rfl, hfz, hnd⟩ := hW
  have hA : DataW.TrodAll enc Tryz.prog W 0 (fun _ => true) true Tryz.f3.params.toList args.toList ds p := hA0
  rw [pars] at hA hval
  obtain ⟨v0, v1, d0, d1, p0, p1, rfl, rfl, rfl, h0, h1⟩ := trodAll_two hA
  obtain ⟨rfl, rfl⟩ := trodVars_none hV
  obtain ⟨k, b, rfl⟩ := open_key (hval 0 23 v0 rfl rfl) h0
  obtain ⟨s, rfl, rfl, rfl, hs⟩ := ChangeMaps.open_string uStr (hval 1 9 v1 rfl rfl) h1
  have hlt : ∀ x ∈ p0, x.block < W.heap.size := fun x hx => hW'.lt x (by simp [hx])
  have hsv : (.string s : Value) = vS s.data.toList := by simp [vS]
  rw [hsv]
  refine (runs k b s.data.toList W (of_laid hL)).mono fun e W' ⟨he, hb⟩ => ?_
  subst he
  have e1 : Rows.keyboardNamesSpec.fn H ([d0, .lit (.string s.data.toList)] ++ []) = { results := [.lit (.bool true)], args := [d0, .lit (.string s.data.toList)] } := rfl
  refine ⟨_, rfl, _, _, _, [], p0 ++ [], [], by rw [← hsv]; exact hW', ?_, ?_, ?_, Below.frame hb _, fun h => by cases h⟩
  · rw [e1, ress]; exact trodAll_mk1 (shut_bool uBool true)
  · rw [e1, pars, ← hsv]
    exact trodAll_mk2 (Below.trod Tryz.laidOut (by kernel_rfl) (of_decide_eq_true (by kernel_rfl)) h0 hb hlt) (ChangeMaps.shut_string uStr hs)
  · rw [e1]; rfl
theorem names_holds : Rows.KeyboardNamesSaid :=
  OpenClaim.holds_of_wide 3 Tryz.f3 rfl rfl rfl rfl rfl rfl rfl ⟨rfl, rfl, rfl, rfl, rfl⟩ rfl rfl rfl rfl rfl (by kernel_rfl) Tryz.func3 (by kernel_rfl)
    (of_decide_eq_true (by kernel_rfl)) (by unfold Func.isWrapper; first | (rw [if_pos (by decide +kernel)]; kernel_rfl) | (rw [if_neg (by decide +kernel)]; exact ⟨rfl, rfl⟩))
    (fun os started H enc _ => names_lifted os started H enc)
theorem names_card_holds : Rows.KeyboardNamesCardSaid :=
  Claim7.holds_tied_plain_at .later [] [.data, .data, .data, .data] true (true, "20c78df6b02ce5f4e599e9fa58c9386561155f8c7346b2603f5c6828feac630c") true
    names_holds (fun _ h => by cases h) (by kernel_rfl) (fun _ h => by cases h) keyboardNames_row_tie rfl ⟨rfl, rfl⟩ (by kernel_rfl) rfl
    (fun f fn hf hfn => by
      obtain rfl : f = 3 := Option.some.inj ((show Tryz.prog.funcNamed "greenscreen/greenscreenlaw22.KeyboardNames" = some 3 by kernel_rfl).symm.trans hf) |>.symm
      obtain rfl : fn = Tryz.f3 := (Option.some.inj (Tryz.func3.symm.trans hfn)).symm
      exact ⟨by kernel_rfl, fun j t ht => by
        rw [pars] at ht
        have hm : t ∈ [23, 9] := by simpa using Array.mem_of_getElem? ht
        have hall : ([23, 9].all fun u => !Tryz.prog.wantsStandIn u) = true := by kernel_rfl
        exact (show Tryz.prog.wantsStandIn t = false by simpa using List.all_eq_true.1 hall t hm)⟩)
    (by kernel_rfl)
end Go.Proofs.YtecipnjloenndaaGreatDoor
