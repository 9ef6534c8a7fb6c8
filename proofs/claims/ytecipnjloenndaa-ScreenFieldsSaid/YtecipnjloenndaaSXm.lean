/-
An activation's end: marks, deferred calls; calls that recover.
-/
import Derived.Test.YtecipnjloenndaaSXl
set_option linter.unusedVariables false
set_option linter.unusedSimpArgs false
namespace Go.Proofs.Ytecipnjloenndaa.SX
open Go Go.RowKit

/-- Called as a deferred call, in this mode of the frame below, it returns, and leaves it in that one. -/
def ConD {X : Type} (P : Program) (f : FuncId) (args : Array Value) (A : List HE) (u u' : FrameMode) (Lo : X → List HE) : Prop :=
  ∀ R h w, sat R A h → Fit R h w → CallsDIn (fence none) 1 P f args u w fun e u2 w' => ∃ x v, e = .returned v ∧ u2 = u' ∧ St h R w w' (Lo x)
section
variable {O X : Type} {P : Program} {N : Nat} {c : Cx} {B : O → Exit → Act → World → Prop} {ks : List (KI O)} {m : Option O} {l : List (Nat × Value)} {L L' : List HE}
  {ops : Array Oper} {rest : List Oper} {ty : TypeId} {p : String} {af : Array Edge} {fn : Func} {res : O → X → Ending} {Lo : O → X → List HE} {o : O} {ds : List Deferred} {u : FrameMode}
theorem lvMark {D : Nat} (r : Upd (.obj D (.deferred (some []))) (.obj D (.deferred none)) L L') (hu : u ≠ .run) (h : LV P N fn c res Lo o ds u l L') : LV P N fn c res Lo o (mark D :: ds) u l L := fun a w he hs => by
  obtain ⟨Lm, r1, r2⟩ := r.rem
  exact ⟨hu, .inl ⟨D, _, rfl, run_takeDeferred (obj_hp hs r1), h a _ he (hs.setObj r trivial)⟩⟩
theorem lvCall {Y : Type} {g : FuncId} {cap dargs : List Value} {A Lr : List HE} {u' : FrameMode} {LoD : Y → List HE} (hu : u ≠ .run) (hok : fnOk P g = true) (hc : ConD P g (dargs ++ cap).toArray A u u' LoD) (pk : Pick L A Lr)
    (h : ∀ y, LV P N fn c res Lo o ds (settle u') l (LoD y ++ Lr)) : LV P N fn c res Lo o ({ target := .fn (.func g) cap.toArray, args := dargs.toArray } :: ds) u l L := fun a w he hs => by
  refine ⟨hu, .inr ⟨fun h => (by cases h), .func g, cap.toArray, g, (dargs ++ cap).toArray, rfl, ?_, fun _ _ => trivial, ?_⟩⟩
  · simp [invoke, run_callFunc hok]
  · obtain ⟨R, hh, hsat, hf, kk⟩ := (pk.st hs).frame
    refine (hc R hh w hsat hf).mono ?_
    rintro e u2 w' ⟨y, v, rfl, rfl, hst⟩
    exact h y a w' he (kk w' _ hst)
theorem lvSub (s : Sub L L') (h : LV P N fn c res Lo o ds u l L') : LV P N fn c res Lo o ds u l L := fun a w he hs => h a w he (s.st hs)
theorem lvSt (s : ∀ w, St c.F c.R0 c.w0 w L → St c.F c.R0 c.w0 w L') (h : LV P N fn c res Lo o ds u l L') : LV P N fn c res Lo o ds u l L := fun a w he hs => h a w he (s w hs)
theorem lDefer {f : Operand} {g : FuncId} {xs : List Operand} {vs cap : List Value} {ats : Array TypeId} (hrn : c.rnd = none) (hf : Ev l f (.func (.func g) #[] cap.toArray)) (ha : EvL l xs vs)
    (k : WL P N { c with D := { target := .fn (.func g) cap.toArray, args := vs.toArray } :: c.D } B ks m ops rest l L) : WL P N c B ks m ops (⟨none, .defer { callee := .value f, args := xs.toArray, argTypes := ats }, ty, p, af, none⟩ :: rest) l L := by
  intro out hm a w he hs
  refine wpListIn_plain rfl fun K hK => ⟨fun _ _ => trivial, ?_⟩
  have hsem : Oper.semAt (fence c.rnd).round a.eval ⟨none, .defer { callee := .value f, args := xs.toArray, argTypes := ats }, ty, p, af, none⟩ = execOp a.eval ⟨none, .defer { callee := .value f, args := xs.toArray, argTypes := ats }, ty, p, af, none⟩ := by
    show Oper.semAt c.rnd _ _ = _
    rw [hrn]; rfl
  rw [hsem]
  have hr : (execOp a.eval ⟨none, .defer { callee := .value f, args := xs.toArray, argTypes := ats }, ty, p, af, none⟩).run P w = .ok (.defer { target := .fn (.func g) cap.toArray, args := vs.toArray }) w := by
    simp [execOp, resolve, he.eval hf, Deferred.ofValue, ha.eq he]
  rw [hr]
  exact hK _ _ (k out hm _ w ⟨he.size, by rw [← he.defers]; rfl, he.at_⟩ hs)
end
/-! ### A deferred function that neither defers nor recovers -/
def BD {X : Type} (P : Program) (fn : Func) (c : Cx) (Lo : X → List HE) : Unit → Exit → Act → World → Prop :=
  fun _ => bodyPost P fn fun en w' => ∃ x v, en = .returned v ∧ St c.F c.R0 c.w0 w' (Lo x)
theorem conD {X : Type} {P : Program} {f : FuncId} {fn : Func} {code : Code} {args : List Value} {l : List (Nat × Value)} {A : List HE} {u : FrameMode} {Lo : X → List HE}
    (hf : P.funcs[f]? = some fn) (hb : fn.body = some code) (N : Nat) (hN : fn.ntmps = N) (hl : Ins 0 args l) (hle : Nat.ble args.length N = true)
    (h : ∀ c : Cx, c.D = [] → c.rnd = none → WC P N c (BD P fn c Lo) [] (some ()) code l A) : ConD P f args.toArray A u u Lo := by
  intro R ph w hs hfit
  have hlen : args.length ≤ N := by simpa using hle
  have := h ⟨[], none, ph, R, w⟩ rfl rfl () rfl { tmps := args.toArray ++ Array.replicate (fn.ntmps - args.toArray.size) undef, defers := [] } w ⟨by simp [hN]; omega, rfl, fun t v k => by
    obtain ⟨_, h2⟩ := hl.lk k
    have h3 : t < args.length := (List.getElem?_eq_some_iff.1 h2).1
    simp only [Nat.sub_zero] at h2
    rw [Array.getElem?_append_left (by simpa using h3)]
    simpa using h2⟩ (St.start hs hfit)
  have h2 : CallsDIn (fence none) 1 P f args.toArray u w fun e u2 w' => u2 = u ∧ ∃ x v, e = .returned v ∧ St ph R w w' (Lo x) := callsDIn_of_wp (F := fence none) hf hb trivial (wpIn_any (n := 2) this)
  exact h2.mono fun e u2 w' hh => by
    obtain ⟨h1, x, v, h2, h3⟩ := hh
    exact ⟨x, v, h2, h1, h3⟩
/-- One that recovers first. -/
theorem conDR {X : Type} {P : Program} {f : FuncId} {fn : Func} {id d : Nat} {ty : TypeId} {p : String} {af : Array Edge} {rest : Code} {args : List Value} {l : List (Nat × Value)} {A : List HE} {u u' : FrameMode} {v : Value} {Lo : X → List HE}
    (hf : P.funcs[f]? = some fn) (hb : fn.body = some (.seq (.region id #[⟨some d, .call { callee := .builtin .recover, args := #[], argTypes := #[] }, ty, p, af, none⟩] false) rest)) (N : Nat) (hN : fn.ntmps = N) (hl : Ins 0 args l) (hle : Nat.ble args.length N = true)
    (hu : (u = .returning ∧ u' = .returning ∧ v = .nilIface) ∨ (u = .panicking [{ v := v, recovered := false }] ∧ u' = .panicking [{ v := v, recovered := true }])) (hd : Nat.blt d N = true) (hn : nokey d l = true)
    (h : ∀ c : Cx, c.D = [] → c.rnd = none → WC P N c (BD P fn c Lo) [] (some ()) rest ((d, v) :: l) A) : ConD P f args.toArray A u u' Lo := by
  intro R ph w hs hfit
  have hlen : args.length ≤ N := by simpa using hle
  have he0 : Env N [] { tmps := args.toArray ++ Array.replicate (fn.ntmps - args.toArray.size) undef, defers := [] } l := ⟨by simp [hN]; omega, rfl, fun t v k => by
    obtain ⟨_, h2⟩ := hl.lk k
    have h3 : t < args.length := (List.getElem?_eq_some_iff.1 h2).1
    simp only [Nat.sub_zero] at h2
    rw [Array.getElem?_append_left (by simpa using h3)]
    simpa using h2⟩
  have hrest := h ⟨[], none, ph, R, w⟩ rfl rfl () rfl _ w (he0.put v hd hn) (St.start hs hfit)
  refine callsDIn_of_wpSIn (F := fence none) hf hb trivial fun c₀ cs hc => ?_
  refine wpSIn_seq (wpSIn_region ?_)
  have hr : ∀ (ρ : Operand → Value), (execOp ρ ⟨some d, .call { callee := .builtin .recover, args := #[], argTypes := #[] }, ty, p, af, none⟩).run P w = .ok .recover w := fun ρ => by
    simp [execOp, resolve, invoke, builtin]
  have key : ∀ (cs' : List Frame), cs' = { c₀ with mode := u' } :: cs → wpOpsSIn (fence none) 1 P #[⟨some d, .call { callee := .builtin .recover, args := #[], argTypes := #[] }, ty, p, af, none⟩] (Exit.thenS (rest.wpSIn (fence none) 1 P (bodyPostS P fn c₀ cs fun e u2 w' => ∃ x v, e = .returned v ∧ u2 = u' ∧ St ph R w w' (Lo x))) (bodyPostS P fn c₀ cs fun e u2 w' => ∃ x v, e = .returned v ∧ u2 = u' ∧ St ph R w w' (Lo x))) []
      (({ tmps := args.toArray ++ Array.replicate (fn.ntmps - args.toArray.size) undef, defers := [] } : Act).put (some d) v) cs' w := by
    rintro cs' rfl
    refine wpSIn_of_wpIn rfl (wpIn_any (n := 2) (wpIn_mono hrest ?_))
    intro e a' w' hh
    cases e with
    | normal => obtain ⟨h1, v', h2, x, v2, h3, h4⟩ := hh; exact ⟨h1, u', rfl, v', h2, x, v2, h3, rfl, h4⟩
    | ret => obtain ⟨h1, v', h2, x, v2, h3, h4⟩ := hh; exact ⟨h1, u', rfl, v', h2, x, v2, h3, rfl, h4⟩
    | panic ch => obtain ⟨h1, x, v2, h3, h4⟩ := hh; cases h3
    | exit id => exact hh
    | goto id => exact hh
    | outgrown => obtain ⟨x, v2, h3, h4⟩ := hh; cases h3
  have hl : List.range (#[(⟨some d, .call { callee := .builtin .recover, args := #[], argTypes := #[] }, ty, p, af, none⟩ : Oper)]).size = [0] := rfl
  rw [hl]
  unfold wpOpsSIn
  simp only [List.getElem?_toArray, List.getElem?_cons_zero]
  refine ⟨fun _ _ => trivial, ?_⟩
  rw [if_pos (by simp [Region.wanted])]
  simp only [hr]
  rcases hu with ⟨rfl, rfl, rfl⟩ | ⟨rfl, rfl⟩
  · have hrec : recoverD (c₀ :: cs) = none := by simp [recoverD, hc]
    simp only [hrec]
    refine key _ ?_
    rw [← hc]
  · have hrec : recoverD (c₀ :: cs) = some (v, { c₀ with mode := .panicking [{ v := v, recovered := true }] } :: cs) := by simp [recoverD, hc]
    simp only [hrec]
    exact key _ rfl
section
variable {X : Type} {P : Program} {N : Nat} {c : Cx} {l : List (Nat × Value)} {L : List HE} {fn : Func} {Lo : X → List HE}
theorem rDoneD {rs : List ResultVar} {vs : List Value} (hr : fn.results = rs.toArray) (h : EvR P l L rs vs) (hD : c.D = []) (x : X) (r : Sub L (Lo x)) :
    ∀ out, some () = some out → ∀ a w, Env N c.D a l → St c.F c.R0 c.w0 w L → BD P fn c Lo out .ret a w := by
  intro out ho a w he hs
  exact ⟨by rw [he.defers, hD], _, results_run hr h he hs, x, _, rfl, r.st hs⟩
theorem xDoneD {rs : List ResultVar} {vs : List Value} (hr : fn.results = rs.toArray) (h : EvR P l L rs vs) (hD : c.D = []) (x : X) (r : Sub L (Lo x)) : WX P N c (BD P fn c Lo) [] (some ()) .normal l L := by
  intro out ho a w he hs
  exact ⟨by rw [he.defers, hD], _, results_run hr h he hs, x, _, rfl, r.st hs⟩
end
end Go.Proofs.Ytecipnjloenndaa.SX
