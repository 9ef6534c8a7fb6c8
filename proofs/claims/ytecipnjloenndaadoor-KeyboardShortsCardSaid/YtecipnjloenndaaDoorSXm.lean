/-
An activation's end: marks, deferred calls; calls that recover.
-/
import Derived.Test.YtecipnjloenndaaDoorSXl
set_option linter.unusedVariables false
set_option linter.unusedSimpArgs false
namespace Go.Proofs.YtecipnjloenndaaDoor.SX
open Go Go.RowKit

/-- Called as a deferred call, in this mode of the frame below, it returns, and leaves it in that one. -/
def ConD {X : Type} (P : Program) (f : FuncId) (args : Array Value) (A : List HE) (u u' : FrameMode) (Lo : X → List HE) : Prop :=
  ∀ R h w, sat R A h → Fit R h w → CallsDIn (fence none) 1 P f args u w fun e u2 w' => ∃ x v, e = .returned v ∧ u2 = u' ∧ St h R w w' (Lo x)
section
variable {O X : Type} {P : Program} {N : Nat} {c : Cx} {B : O → Exit → Act → World → Prop} {ks : List (KI O)} {m : Option O} {l : List (Nat × Value)} {L L' : List HE}
  {ops : Array Oper} {rest : List Oper} {ty : TypeId} {p : String} {af : Array Edge} {fn : Func} {res : O → X → Ending} {Lo : O → X → List HE} {o : O} {ds : List Deferred} {u : FrameMode}
theorem lvMark {D : Nat} (r : Upd (.obj D (.deferred (some []))) (.obj D (.deferred none)) L L') (hu : u ≠ .run) (h : LV P N fn c res Lo o ds u l L') : LV P N fn c res Lo o (mark D :: ds) u l L := fun a w he hs => by
  obtain ⟨Lm, r1, r2⟩ := r.rem
  exact ⟨hu, .inl ⟨D, _, rfl, run_takeDeferred (obj_hp hs r1), h a _ he (hs.setObj r trivial)⟩⟩
theorem lvCall {Y : Type} {g : FuncId} {cap dargs : List Value} {A Lr : List HE} {u' : FrameMode} {LoD : Y → List HE} (hu : u ≠ .run) (hok : fnOk P g = true) (hc : ConD P g (dargs ++ cap).toArray A u u' LoD) (pk : Pick L A Lr)
    (h : ∀ y, LV P N fn c res Lo o ds (settle u') l (LoD y ++ Lr)) : LV P N fn c res Lo o ({ target := .fn (.func g) cap.toArray, args := dargs.toArray } :: ds) u l L := fun a w he hs => by
  refine ⟨hu, .inr ⟨fun h => (by cases h), .func g, cap.toArray, g, (dargs ++ cap).toArray, rfl, ?_, fun _ _ => trivial, ?_⟩⟩
  · simp [invoke, run_callFunc hok]
  · obtain ⟨R, hh, hsat, hf, kk⟩ := (pk.st hs).frame
    refine (hc R hh w hsat hf).mono ?_
    rintro e u2 w' ⟨y, v, rfl, rfl, hst⟩
    exact h y a w' he (kk w' _ hst)
theorem lvSub (s : Sub L L') (h : LV P N fn c res Lo o ds u l L') : LV P N fn c res Lo o ds u l L := fun a w he hs => h a w he (s.st hs)
theorem lvSt (s : ∀ w, St c.F c.R0 c.w0 w L → St c.F c.R0 c.w0 w L') (h : LV P N fn c res Lo o ds u l L') : LV P N fn c res Lo o ds u l L := fun a w he hs => h a w he (s w hs)
theorem lDefer {f : Operand} {g : FuncId} {xs : List Operand} {vs cap : List Value} {ats : Array TypeId} (hrn : c.rnd = none) (hf : Ev l f (.func (.func g) #[] cap.toArray)) (ha : EvL l xs vs)
    (k : WL P N { c with D := { target := .fn (.func g) cap.toArray, args := vs.toArray } :: c.D } B ks m ops rest l L) : WL P N c B ks m ops (⟨none, .defer { callee := .value f, args := xs.toArray, argTypes := ats }, ty, p, af, none⟩ :: rest) l L := by
  intro out hm a w he hs
  refine wpListIn_plain rfl fun K hK => ⟨fun _ _ => trivial, ?_⟩
  have hsem : Oper.semAt (fence c.rnd).round a.eval ⟨none, .defer { callee := .value f, args := xs.toArray, argTypes := ats }, ty, p, af, none⟩ = execOp a.eval ⟨none, .defer { callee := .value f, args := xs.toArray, argTypes := ats }, ty, p, af, none⟩ := by
    show Oper.semAt c.rnd _ _ = _
    rw [hrn]; rfl
  rw [hsem]
  have hr : (execOp a.eval ⟨none, .defer { callee := .value f, args := xs.toArray, argTypes := ats }, ty, p, af, none⟩).run P w = .ok (.defer { target := .fn (.func g) cap.toArray, args := vs.toArray }) w := by
    simp [execOp, resolve, he.eval hf, Deferred.ofValue, ha.eq he]
  rw [hr]
  exact hK _ _ (k out hm _ w ⟨he.size, by rw [← he.defers]; rfl, he.at_⟩ hs)
end
/-! ### A deferred function that neither defers nor recovers -/
def BD {X : Type} (P : Program) (fn : Func) (c : Cx) (Lo : X → List HE) : Unit → Exit → Act → World → Prop :=
  fun _ => bodyPost P fn fun en w' => ∃ x v, en = .returned v ∧ St c.F c.R0 c.w0 w' (Lo x)
theorem conD {X : Type} {P : Program} {f : FuncId} {fn : Func} {code : Code} {args : List Value} {l : List (Nat × Value)} {A : List HE} {u : FrameMode} {Lo : X → List HE}
    (hf : P.funcs[f]? = some fn) (hb : fn.body = some code) (N : Nat) (hN : fn.ntmps = N) (hl : Ins 0 args l) (hle : Nat.ble args.length N = true)
    (h : ∀ c : Cx, c.D = [] → c.rnd = none → WC P N c (BD P fn c Lo) [] (some ()) code l A) : ConD P f args.toArray A u u Lo := by
  intro R ph w hs hfit
  have hlen : args.length ≤ N := by simpa using hle
  have := h ⟨[], none, ph, R, w⟩ rfl rfl () rfl { tmps := args.toArray ++ Array.replicate (fn.ntmps - args.toArray.size) undef, defers := [] } w ⟨by simp [hN]; omega, rfl, fun t v k => by
    obtain ⟨_, h2⟩ := hl.lk k
    have h3 : t < args.length := (List.getElem?_eq_some_iff.1 h2).1
    simp only [Nat.sub_zero] at h2
    rw [Array.getElem?_append_left (by simpa using h3)]
    simpa using h2⟩ (St.start hs hfit)
  have h2 : CallsDIn (fence none) 1 P f args.toArray u w fun e u2 w' => u2 = u ∧ ∃ x v, e = .returned v ∧ St ph R w w' (Lo x) := callsDIn_of_wp (F := fence none) hf hb trivial (wpIn_any (n := 2) this)
  exact h2.mono fun e u2 w' hh => by
    obtain ⟨h1, x, v, h2, h3⟩ := hh
    exact ⟨x, v, h2, h1, h3⟩
/-- One that recovers first. -/
theorem conDR {X : Type} {P : Program} {f : FuncId} {fn : Func} {id d : Nat} {ty : TypeId} {p : String} {af : Array Edge} {rest : Code} {args : List Value} {l : List (Nat × Value)} {A : List HE} {u u' : FrameMode} {v : Value} {Lo : X → List HE}
    (hf : P.funcs[f]? = some fn) (hb : fn.body = some (.seq (.region id #[⟨some d, .call { callee := .builtin .recover, args := #[], argTypes := #[] }, ty, p, af, none⟩] false) rest)) (N : Nat) (hN : fn.ntmps = N) (hl : Ins 0 args l) (hle : Nat.ble args.length N = true)
    (hu : (u = .returning ∧ u' = .returning ∧ v = .nilIface) ∨ (u = .panicking [{ v := v, recovered := false }] ∧ u' = .panicking [{ v := v, recovered := true }])) (hd : Nat.blt d N = true) (hn : nokey d l = true)
    (h : ∀ c : Cx, c.D = [] → c.rnd = none → WC P N c (BD P fn c Lo) [] (some ()) rest ((d, v) :: l) A) : ConD P f args.toArray A u u' Lo := by
  intro R ph w hs hfit
  have hlen : args.length ≤ N := by simpa using hle
  have he0 : Env N [] { tmps := args.toArray ++ Array.replicate (fn.ntmps - args.toArray.size) undef, defers := [] } l := ⟨by simp [hN]; omega, rfl, fun t v k => by
    obtain ⟨_, h2⟩ := hl.lk k
    have h3 : t < args.length := (List.getElem?_eq_some_iff.1 h2).1
    simp only [Nat.sub_zero] at h2
    rw [Array.getElem?_append_left (by simpa using h3)]
    simpa using h2⟩
  have hrest := h ⟨[], none, ph, R, w⟩ rfl rfl () rfl _ w (he0.put v hd hn) (St.start hs hfit)
  refine callsDIn_of_wpSIn (F := fence none) hf hb trivial fun c₀ cs hc => ?_
  refine wpSIn_seq (wpSIn_region ?_)
  have hr : ∀ (ρ : Operand → Value), (execOp ρ ⟨some d, .call { callee := .builtin .recover, args := #[], argTypes := #[] }, ty, p, af, none⟩).run P w = .ok .recover w := fun ρ => by
    simp [execOp, resolve, invoke, builtin]
  have key : ∀ (cs' : List Frame), cs' = { c₀ with mode := u' } :: cs → wpOpsSIn (fence none) 1 P #[⟨some d, .call { callee := .builtin .recover, args := #[], argTypes := #[] }, ty, p, af, none⟩] (Exit.thenS (rest.wpSIn (fence none) 1 P (bodyPostS P fn c₀ cs fun e u2 w' => ∃ x v, e = .returned v ∧ u2 = u' ∧ St ph R w w' (Lo x))) (bodyPostS P fn c₀ cs fun e u2 w' => ∃ x v, e = .returned v ∧ u2 = u' ∧ St ph R w w' (Lo x))) []
      (({ tmps := args.toArray ++ Array.replicate (fn.ntmps - args.toArray.size) undef, defers := [] } : Act).put (some d) v) cs' w := by
    rintro cs' rfl
    refine wpSIn_of_wpIn rfl (wpIn_any (n := 2) (wpIn_mono hrest ?_))
    intro e a' w' hh
    cases e with
    | normal => obtain ⟨h1, v', h2, x, v2, h3, h4⟩ := hh; exact ⟨h1, u', rfl, v', h2, x, v2, h3, rfl, h4⟩
    | ret => obtain ⟨h1, v', h2, x, v2, h3, h4⟩ := hh; exact ⟨h1, u', rfl, v', h2, x, v2, h3, rfl, h4⟩
    | panic ch => obtain ⟨h1, x, v2, h3, h4⟩ := hh; cases h3
    | exit id => exact hh
    | goto id => exact hh
    | outgrown => obtain ⟨x, v2, h3, h4⟩ := hh; cases h3
  have hl : List.range (#[(⟨some d, .call { callee := .builtin .recover, args := #[], argTypes := #[] }, ty, p, af, none⟩ : Oper)]).size = [0] := rfl
  rw [hl]
  unfold wpOpsSIn
  simp only [List.getElem?_toArray, List.getElem?_cons_zero]
  refine ⟨fun _ _ => trivial, ?_⟩
  rw [if_pos (by simp [Region.wanted])]
  simp only [hr]
  rcases hu with ⟨rfl, rfl, rfl⟩ | ⟨rfl, rfl⟩
  · have hrec : recoverD (c₀ :: cs) = none := by simp [recoverD, hc]
    simp only [hrec]
    refine key _ ?_
    rw [← hc]
  · have hrec : recoverD (c₀ :: cs) = some (v, { c₀ with mode := .panicking [{ v := v, recovered := true }] } :: cs) := by simp [recoverD, hc]
    simp only [hrec]
    exact key _ rfl
section
variable {X : Type} {P : Program} {N : Nat} {c : Cx} {l : List (Nat × Value)} {L : List HE} {fn : Func} {Lo : X → List HE}
theorem rDoneD {rs : List ResultVar} {vs : List Value} (hr : fn.results = rs.toArray) (h : EvR P l L rs vs) (hD : c.D = []) (x : X) (r : Sub L (Lo x)) :
    ∀ out, some () = some out → ∀ a w, Env N c.D a l → St c.F c.R0 c.w0 w L → BD P fn c Lo out .ret a w := by
  intro out ho a w he hs
  exact ⟨by rw [he.defers, hD], _, results_run hr h he hs, x, _, rfl, r.st hs⟩
theorem xDoneD {rs : List ResultVar} {vs : List Value} (hr : fn.results = rs.toArray) (h : EvR P l L rs vs) (hD : c.D = []) (x : X) (r : Sub L (Lo x)) : WX P N c (BD P fn c Lo) [] (some ()) .normal l L := by
  intro out ho a w he hs
  exact ⟨by rw [he.defers, hD], _, results_run hr h he hs, x, _, rfl, r.st hs⟩
end
/-! ### Places far behind -/
theorem Lk.s2 {l : List (Nat × Value)} {t : Nat} {v : Value} {p0 p1 : Nat × Value} (h : Lk l t v) : Lk (p0 :: p1 :: l) t v := .s (.s h)
theorem Lk.s4 {l : List (Nat × Value)} {t : Nat} {v : Value} {p0 p1 p2 p3 : Nat × Value} (h : Lk l t v) : Lk (p0 :: p1 :: p2 :: p3 :: l) t v := .s2 (.s2 h)
theorem Lk.s8 {l : List (Nat × Value)} {t : Nat} {v : Value} {p0 p1 p2 p3 p4 p5 p6 p7 : Nat × Value} (h : Lk l t v) : Lk (p0 :: p1 :: p2 :: p3 :: p4 :: p5 :: p6 :: p7 :: l) t v := .s4 (.s4 h)
theorem Lk.s16 {l : List (Nat × Value)} {t : Nat} {v : Value} {p0 p1 p2 p3 p4 p5 p6 p7 p8 p9 p10 p11 p12 p13 p14 p15 : Nat × Value} (h : Lk l t v) : Lk (p0 :: p1 :: p2 :: p3 :: p4 :: p5 :: p6 :: p7 :: p8 :: p9 :: p10 :: p11 :: p12 :: p13 :: p14 :: p15 :: l) t v := .s8 (.s8 h)
theorem Rem.s2 {e : HE} {L L' : List HE} {p0 p1 : HE} (h : Rem e L L') : Rem e (p0 :: p1 :: L) (p0 :: p1 :: L') := .s (.s h)
theorem Rem.s4 {e : HE} {L L' : List HE} {p0 p1 p2 p3 : HE} (h : Rem e L L') : Rem e (p0 :: p1 :: p2 :: p3 :: L) (p0 :: p1 :: p2 :: p3 :: L') := .s2 (.s2 h)
theorem Rem.s8 {e : HE} {L L' : List HE} {p0 p1 p2 p3 p4 p5 p6 p7 : HE} (h : Rem e L L') : Rem e (p0 :: p1 :: p2 :: p3 :: p4 :: p5 :: p6 :: p7 :: L) (p0 :: p1 :: p2 :: p3 :: p4 :: p5 :: p6 :: p7 :: L') := .s4 (.s4 h)
theorem Rem.s16 {e : HE} {L L' : List HE} {p0 p1 p2 p3 p4 p5 p6 p7 p8 p9 p10 p11 p12 p13 p14 p15 : HE} (h : Rem e L L') : Rem e (p0 :: p1 :: p2 :: p3 :: p4 :: p5 :: p6 :: p7 :: p8 :: p9 :: p10 :: p11 :: p12 :: p13 :: p14 :: p15 :: L) (p0 :: p1 :: p2 :: p3 :: p4 :: p5 :: p6 :: p7 :: p8 :: p9 :: p10 :: p11 :: p12 :: p13 :: p14 :: p15 :: L') := .s8 (.s8 h)
theorem Upd.s2 {e e' : HE} {L L' : List HE} {p0 p1 : HE} (h : Upd e e' L L') : Upd e e' (p0 :: p1 :: L) (p0 :: p1 :: L') := .s (.s h)
theorem Upd.s4 {e e' : HE} {L L' : List HE} {p0 p1 p2 p3 : HE} (h : Upd e e' L L') : Upd e e' (p0 :: p1 :: p2 :: p3 :: L) (p0 :: p1 :: p2 :: p3 :: L') := .s2 (.s2 h)
theorem Upd.s8 {e e' : HE} {L L' : List HE} {p0 p1 p2 p3 p4 p5 p6 p7 : HE} (h : Upd e e' L L') : Upd e e' (p0 :: p1 :: p2 :: p3 :: p4 :: p5 :: p6 :: p7 :: L) (p0 :: p1 :: p2 :: p3 :: p4 :: p5 :: p6 :: p7 :: L') := .s4 (.s4 h)
theorem Upd.s16 {e e' : HE} {L L' : List HE} {p0 p1 p2 p3 p4 p5 p6 p7 p8 p9 p10 p11 p12 p13 p14 p15 : HE} (h : Upd e e' L L') : Upd e e' (p0 :: p1 :: p2 :: p3 :: p4 :: p5 :: p6 :: p7 :: p8 :: p9 :: p10 :: p11 :: p12 :: p13 :: p14 :: p15 :: L) (p0 :: p1 :: p2 :: p3 :: p4 :: p5 :: p6 :: p7 :: p8 :: p9 :: p10 :: p11 :: p12 :: p13 :: p14 :: p15 :: L') := .s8 (.s8 h)
theorem SetL.s2 {l : List Value} {n : Nat} {v : Value} {l' : List Value} {p0 p1 : Value} (h : SetL l n v l') : SetL (p0 :: p1 :: l) (n + 1 + 1) v (p0 :: p1 :: l') := .s (.s h)
theorem SetL.s4 {l : List Value} {n : Nat} {v : Value} {l' : List Value} {p0 p1 p2 p3 : Value} (h : SetL l n v l') : SetL (p0 :: p1 :: p2 :: p3 :: l) (n + 1 + 1 + 1 + 1) v (p0 :: p1 :: p2 :: p3 :: l') := .s2 (.s2 h)
theorem SetL.s8 {l : List Value} {n : Nat} {v : Value} {l' : List Value} {p0 p1 p2 p3 p4 p5 p6 p7 : Value} (h : SetL l n v l') : SetL (p0 :: p1 :: p2 :: p3 :: p4 :: p5 :: p6 :: p7 :: l) (n + 1 + 1 + 1 + 1 + 1 + 1 + 1 + 1) v (p0 :: p1 :: p2 :: p3 :: p4 :: p5 :: p6 :: p7 :: l') := .s4 (.s4 h)
theorem SetL.s16 {l : List Value} {n : Nat} {v : Value} {l' : List Value} {p0 p1 p2 p3 p4 p5 p6 p7 p8 p9 p10 p11 p12 p13 p14 p15 : Value} (h : SetL l n v l') : SetL (p0 :: p1 :: p2 :: p3 :: p4 :: p5 :: p6 :: p7 :: p8 :: p9 :: p10 :: p11 :: p12 :: p13 :: p14 :: p15 :: l) (n + 1 + 1 + 1 + 1 + 1 + 1 + 1 + 1 + 1 + 1 + 1 + 1 + 1 + 1 + 1 + 1) v (p0 :: p1 :: p2 :: p3 :: p4 :: p5 :: p6 :: p7 :: p8 :: p9 :: p10 :: p11 :: p12 :: p13 :: p14 :: p15 :: l') := .s8 (.s8 h)
section
variable {t : Nat} {v u : Value} {e e' : HE}
section
variable {a b c d f g h i j k n o p q r s w x y z A B C D E F G H I J K : Nat × Value} {l : List (Nat × Value)}
theorem Lk.z1 : Lk (a::(t, v)::l) t v := .s .z
theorem Lk.z2 : Lk (a::b::(t, v)::l) t v := .s2 .z
theorem Lk.z3 : Lk (a::b::c::(t, v)::l) t v := .s2 (.s .z)
theorem Lk.z4 : Lk (a::b::c::d::(t, v)::l) t v := .s4 .z
theorem Lk.z5 : Lk (a::b::c::d::f::(t, v)::l) t v := .s4 (.s .z)
theorem Lk.z6 : Lk (a::b::c::d::f::g::(t, v)::l) t v := .s4 (.s2 .z)
theorem Lk.z7 : Lk (a::b::c::d::f::g::h::(t, v)::l) t v := .s4 (.s2 (.s .z))
theorem Lk.z8 : Lk (a::b::c::d::f::g::h::i::(t, v)::l) t v := .s8 .z
theorem Lk.z9 : Lk (a::b::c::d::f::g::h::i::j::(t, v)::l) t v := .s8 (.s .z)
theorem Lk.z10 : Lk (a::b::c::d::f::g::h::i::j::k::(t, v)::l) t v := .s8 (.s2 .z)
theorem Lk.z11 : Lk (a::b::c::d::f::g::h::i::j::k::n::(t, v)::l) t v := .s8 (.s2 (.s .z))
theorem Lk.z12 : Lk (a::b::c::d::f::g::h::i::j::k::n::o::(t, v)::l) t v := .s8 (.s4 .z)
theorem Lk.z13 : Lk (a::b::c::d::f::g::h::i::j::k::n::o::p::(t, v)::l) t v := .s8 (.s4 (.s .z))
theorem Lk.z14 : Lk (a::b::c::d::f::g::h::i::j::k::n::o::p::q::(t, v)::l) t v := .s8 (.s4 (.s2 .z))
theorem Lk.z15 : Lk (a::b::c::d::f::g::h::i::j::k::n::o::p::q::r::(t, v)::l) t v := .s8 (.s4 (.s2 (.s .z)))
theorem Lk.z16 : Lk (a::b::c::d::f::g::h::i::j::k::n::o::p::q::r::s::(t, v)::l) t v := .s16 .z
theorem Lk.z17 : Lk (a::b::c::d::f::g::h::i::j::k::n::o::p::q::r::s::w::(t, v)::l) t v := .s16 (.s .z)
theorem Lk.z18 : Lk (a::b::c::d::f::g::h::i::j::k::n::o::p::q::r::s::w::x::(t, v)::l) t v := .s16 (.s2 .z)
theorem Lk.z19 : Lk (a::b::c::d::f::g::h::i::j::k::n::o::p::q::r::s::w::x::y::(t, v)::l) t v := .s16 (.s2 (.s .z))
theorem Lk.z20 : Lk (a::b::c::d::f::g::h::i::j::k::n::o::p::q::r::s::w::x::y::z::(t, v)::l) t v := .s16 (.s4 .z)
theorem Lk.z21 : Lk (a::b::c::d::f::g::h::i::j::k::n::o::p::q::r::s::w::x::y::z::A::(t, v)::l) t v := .s16 (.s4 (.s .z))
theorem Lk.z22 : Lk (a::b::c::d::f::g::h::i::j::k::n::o::p::q::r::s::w::x::y::z::A::B::(t, v)::l) t v := .s16 (.s4 (.s2 .z))
theorem Lk.z23 : Lk (a::b::c::d::f::g::h::i::j::k::n::o::p::q::r::s::w::x::y::z::A::B::C::(t, v)::l) t v := .s16 (.s4 (.s2 (.s .z)))
theorem Lk.z24 : Lk (a::b::c::d::f::g::h::i::j::k::n::o::p::q::r::s::w::x::y::z::A::B::C::D::(t, v)::l) t v := .s16 (.s8 .z)
theorem Lk.z25 : Lk (a::b::c::d::f::g::h::i::j::k::n::o::p::q::r::s::w::x::y::z::A::B::C::D::E::(t, v)::l) t v := .s16 (.s8 (.s .z))
theorem Lk.z26 : Lk (a::b::c::d::f::g::h::i::j::k::n::o::p::q::r::s::w::x::y::z::A::B::C::D::E::F::(t, v)::l) t v := .s16 (.s8 (.s2 .z))
theorem Lk.z27 : Lk (a::b::c::d::f::g::h::i::j::k::n::o::p::q::r::s::w::x::y::z::A::B::C::D::E::F::G::(t, v)::l) t v := .s16 (.s8 (.s2 (.s .z)))
theorem Lk.z28 : Lk (a::b::c::d::f::g::h::i::j::k::n::o::p::q::r::s::w::x::y::z::A::B::C::D::E::F::G::H::(t, v)::l) t v := .s16 (.s8 (.s4 .z))
theorem Lk.z29 : Lk (a::b::c::d::f::g::h::i::j::k::n::o::p::q::r::s::w::x::y::z::A::B::C::D::E::F::G::H::I::(t, v)::l) t v := .s16 (.s8 (.s4 (.s .z)))
theorem Lk.z30 : Lk (a::b::c::d::f::g::h::i::j::k::n::o::p::q::r::s::w::x::y::z::A::B::C::D::E::F::G::H::I::J::(t, v)::l) t v := .s16 (.s8 (.s4 (.s2 .z)))
theorem Lk.z31 : Lk (a::b::c::d::f::g::h::i::j::k::n::o::p::q::r::s::w::x::y::z::A::B::C::D::E::F::G::H::I::J::K::(t, v)::l) t v := .s16 (.s8 (.s4 (.s2 (.s .z))))
end
section
variable {a b c d f g h i j k n o p q r s w x y z A B C D E F G H I J K : HE} {L : List HE}
theorem Rem.z1 : Rem e (a::e::L) (a::L) := .s .z
theorem Rem.z2 : Rem e (a::b::e::L) (a::b::L) := .s2 .z
theorem Rem.z3 : Rem e (a::b::c::e::L) (a::b::c::L) := .s2 (.s .z)
theorem Rem.z4 : Rem e (a::b::c::d::e::L) (a::b::c::d::L) := .s4 .z
theorem Rem.z5 : Rem e (a::b::c::d::f::e::L) (a::b::c::d::f::L) := .s4 (.s .z)
theorem Rem.z6 : Rem e (a::b::c::d::f::g::e::L) (a::b::c::d::f::g::L) := .s4 (.s2 .z)
theorem Rem.z7 : Rem e (a::b::c::d::f::g::h::e::L) (a::b::c::d::f::g::h::L) := .s4 (.s2 (.s .z))
theorem Rem.z8 : Rem e (a::b::c::d::f::g::h::i::e::L) (a::b::c::d::f::g::h::i::L) := .s8 .z
theorem Rem.z9 : Rem e (a::b::c::d::f::g::h::i::j::e::L) (a::b::c::d::f::g::h::i::j::L) := .s8 (.s .z)
theorem Rem.z10 : Rem e (a::b::c::d::f::g::h::i::j::k::e::L) (a::b::c::d::f::g::h::i::j::k::L) := .s8 (.s2 .z)
theorem Rem.z11 : Rem e (a::b::c::d::f::g::h::i::j::k::n::e::L) (a::b::c::d::f::g::h::i::j::k::n::L) := .s8 (.s2 (.s .z))
theorem Rem.z12 : Rem e (a::b::c::d::f::g::h::i::j::k::n::o::e::L) (a::b::c::d::f::g::h::i::j::k::n::o::L) := .s8 (.s4 .z)
theorem Rem.z13 : Rem e (a::b::c::d::f::g::h::i::j::k::n::o::p::e::L) (a::b::c::d::f::g::h::i::j::k::n::o::p::L) := .s8 (.s4 (.s .z))
theorem Rem.z14 : Rem e (a::b::c::d::f::g::h::i::j::k::n::o::p::q::e::L) (a::b::c::d::f::g::h::i::j::k::n::o::p::q::L) := .s8 (.s4 (.s2 .z))
theorem Rem.z15 : Rem e (a::b::c::d::f::g::h::i::j::k::n::o::p::q::r::e::L) (a::b::c::d::f::g::h::i::j::k::n::o::p::q::r::L) := .s8 (.s4 (.s2 (.s .z)))
theorem Rem.z16 : Rem e (a::b::c::d::f::g::h::i::j::k::n::o::p::q::r::s::e::L) (a::b::c::d::f::g::h::i::j::k::n::o::p::q::r::s::L) := .s16 .z
theorem Rem.z17 : Rem e (a::b::c::d::f::g::h::i::j::k::n::o::p::q::r::s::w::e::L) (a::b::c::d::f::g::h::i::j::k::n::o::p::q::r::s::w::L) := .s16 (.s .z)
theorem Rem.z18 : Rem e (a::b::c::d::f::g::h::i::j::k::n::o::p::q::r::s::w::x::e::L) (a::b::c::d::f::g::h::i::j::k::n::o::p::q::r::s::w::x::L) := .s16 (.s2 .z)
theorem Rem.z19 : Rem e (a::b::c::d::f::g::h::i::j::k::n::o::p::q::r::s::w::x::y::e::L) (a::b::c::d::f::g::h::i::j::k::n::o::p::q::r::s::w::x::y::L) := .s16 (.s2 (.s .z))
theorem Rem.z20 : Rem e (a::b::c::d::f::g::h::i::j::k::n::o::p::q::r::s::w::x::y::z::e::L) (a::b::c::d::f::g::h::i::j::k::n::o::p::q::r::s::w::x::y::z::L) := .s16 (.s4 .z)
theorem Rem.z21 : Rem e (a::b::c::d::f::g::h::i::j::k::n::o::p::q::r::s::w::x::y::z::A::e::L) (a::b::c::d::f::g::h::i::j::k::n::o::p::q::r::s::w::x::y::z::A::L) := .s16 (.s4 (.s .z))
theorem Rem.z22 : Rem e (a::b::c::d::f::g::h::i::j::k::n::o::p::q::r::s::w::x::y::z::A::B::e::L) (a::b::c::d::f::g::h::i::j::k::n::o::p::q::r::s::w::x::y::z::A::B::L) := .s16 (.s4 (.s2 .z))
theorem Rem.z23 : Rem e (a::b::c::d::f::g::h::i::j::k::n::o::p::q::r::s::w::x::y::z::A::B::C::e::L) (a::b::c::d::f::g::h::i::j::k::n::o::p::q::r::s::w::x::y::z::A::B::C::L) := .s16 (.s4 (.s2 (.s .z)))
theorem Rem.z24 : Rem e (a::b::c::d::f::g::h::i::j::k::n::o::p::q::r::s::w::x::y::z::A::B::C::D::e::L) (a::b::c::d::f::g::h::i::j::k::n::o::p::q::r::s::w::x::y::z::A::B::C::D::L) := .s16 (.s8 .z)
theorem Rem.z25 : Rem e (a::b::c::d::f::g::h::i::j::k::n::o::p::q::r::s::w::x::y::z::A::B::C::D::E::e::L) (a::b::c::d::f::g::h::i::j::k::n::o::p::q::r::s::w::x::y::z::A::B::C::D::E::L) := .s16 (.s8 (.s .z))
theorem Rem.z26 : Rem e (a::b::c::d::f::g::h::i::j::k::n::o::p::q::r::s::w::x::y::z::A::B::C::D::E::F::e::L) (a::b::c::d::f::g::h::i::j::k::n::o::p::q::r::s::w::x::y::z::A::B::C::D::E::F::L) := .s16 (.s8 (.s2 .z))
theorem Rem.z27 : Rem e (a::b::c::d::f::g::h::i::j::k::n::o::p::q::r::s::w::x::y::z::A::B::C::D::E::F::G::e::L) (a::b::c::d::f::g::h::i::j::k::n::o::p::q::r::s::w::x::y::z::A::B::C::D::E::F::G::L) := .s16 (.s8 (.s2 (.s .z)))
theorem Rem.z28 : Rem e (a::b::c::d::f::g::h::i::j::k::n::o::p::q::r::s::w::x::y::z::A::B::C::D::E::F::G::H::e::L) (a::b::c::d::f::g::h::i::j::k::n::o::p::q::r::s::w::x::y::z::A::B::C::D::E::F::G::H::L) := .s16 (.s8 (.s4 .z))
theorem Rem.z29 : Rem e (a::b::c::d::f::g::h::i::j::k::n::o::p::q::r::s::w::x::y::z::A::B::C::D::E::F::G::H::I::e::L) (a::b::c::d::f::g::h::i::j::k::n::o::p::q::r::s::w::x::y::z::A::B::C::D::E::F::G::H::I::L) := .s16 (.s8 (.s4 (.s .z)))
theorem Rem.z30 : Rem e (a::b::c::d::f::g::h::i::j::k::n::o::p::q::r::s::w::x::y::z::A::B::C::D::E::F::G::H::I::J::e::L) (a::b::c::d::f::g::h::i::j::k::n::o::p::q::r::s::w::x::y::z::A::B::C::D::E::F::G::H::I::J::L) := .s16 (.s8 (.s4 (.s2 .z)))
theorem Rem.z31 : Rem e (a::b::c::d::f::g::h::i::j::k::n::o::p::q::r::s::w::x::y::z::A::B::C::D::E::F::G::H::I::J::K::e::L) (a::b::c::d::f::g::h::i::j::k::n::o::p::q::r::s::w::x::y::z::A::B::C::D::E::F::G::H::I::J::K::L) := .s16 (.s8 (.s4 (.s2 (.s .z))))
theorem Upd.z1 : Upd e e' (a::e::L) (a::e'::L) := .s .z
theorem Upd.z2 : Upd e e' (a::b::e::L) (a::b::e'::L) := .s2 .z
theorem Upd.z3 : Upd e e' (a::b::c::e::L) (a::b::c::e'::L) := .s2 (.s .z)
theorem Upd.z4 : Upd e e' (a::b::c::d::e::L) (a::b::c::d::e'::L) := .s4 .z
theorem Upd.z5 : Upd e e' (a::b::c::d::f::e::L) (a::b::c::d::f::e'::L) := .s4 (.s .z)
theorem Upd.z6 : Upd e e' (a::b::c::d::f::g::e::L) (a::b::c::d::f::g::e'::L) := .s4 (.s2 .z)
theorem Upd.z7 : Upd e e' (a::b::c::d::f::g::h::e::L) (a::b::c::d::f::g::h::e'::L) := .s4 (.s2 (.s .z))
theorem Upd.z8 : Upd e e' (a::b::c::d::f::g::h::i::e::L) (a::b::c::d::f::g::h::i::e'::L) := .s8 .z
theorem Upd.z9 : Upd e e' (a::b::c::d::f::g::h::i::j::e::L) (a::b::c::d::f::g::h::i::j::e'::L) := .s8 (.s .z)
theorem Upd.z10 : Upd e e' (a::b::c::d::f::g::h::i::j::k::e::L) (a::b::c::d::f::g::h::i::j::k::e'::L) := .s8 (.s2 .z)
theorem Upd.z11 : Upd e e' (a::b::c::d::f::g::h::i::j::k::n::e::L) (a::b::c::d::f::g::h::i::j::k::n::e'::L) := .s8 (.s2 (.s .z))
theorem Upd.z12 : Upd e e' (a::b::c::d::f::g::h::i::j::k::n::o::e::L) (a::b::c::d::f::g::h::i::j::k::n::o::e'::L) := .s8 (.s4 .z)
theorem Upd.z13 : Upd e e' (a::b::c::d::f::g::h::i::j::k::n::o::p::e::L) (a::b::c::d::f::g::h::i::j::k::n::o::p::e'::L) := .s8 (.s4 (.s .z))
theorem Upd.z14 : Upd e e' (a::b::c::d::f::g::h::i::j::k::n::o::p::q::e::L) (a::b::c::d::f::g::h::i::j::k::n::o::p::q::e'::L) := .s8 (.s4 (.s2 .z))
theorem Upd.z15 : Upd e e' (a::b::c::d::f::g::h::i::j::k::n::o::p::q::r::e::L) (a::b::c::d::f::g::h::i::j::k::n::o::p::q::r::e'::L) := .s8 (.s4 (.s2 (.s .z)))
theorem Upd.z16 : Upd e e' (a::b::c::d::f::g::h::i::j::k::n::o::p::q::r::s::e::L) (a::b::c::d::f::g::h::i::j::k::n::o::p::q::r::s::e'::L) := .s16 .z
theorem Upd.z17 : Upd e e' (a::b::c::d::f::g::h::i::j::k::n::o::p::q::r::s::w::e::L) (a::b::c::d::f::g::h::i::j::k::n::o::p::q::r::s::w::e'::L) := .s16 (.s .z)
theorem Upd.z18 : Upd e e' (a::b::c::d::f::g::h::i::j::k::n::o::p::q::r::s::w::x::e::L) (a::b::c::d::f::g::h::i::j::k::n::o::p::q::r::s::w::x::e'::L) := .s16 (.s2 .z)
theorem Upd.z19 : Upd e e' (a::b::c::d::f::g::h::i::j::k::n::o::p::q::r::s::w::x::y::e::L) (a::b::c::d::f::g::h::i::j::k::n::o::p::q::r::s::w::x::y::e'::L) := .s16 (.s2 (.s .z))
theorem Upd.z20 : Upd e e' (a::b::c::d::f::g::h::i::j::k::n::o::p::q::r::s::w::x::y::z::e::L) (a::b::c::d::f::g::h::i::j::k::n::o::p::q::r::s::w::x::y::z::e'::L) := .s16 (.s4 .z)
theorem Upd.z21 : Upd e e' (a::b::c::d::f::g::h::i::j::k::n::o::p::q::r::s::w::x::y::z::A::e::L) (a::b::c::d::f::g::h::i::j::k::n::o::p::q::r::s::w::x::y::z::A::e'::L) := .s16 (.s4 (.s .z))
theorem Upd.z22 : Upd e e' (a::b::c::d::f::g::h::i::j::k::n::o::p::q::r::s::w::x::y::z::A::B::e::L) (a::b::c::d::f::g::h::i::j::k::n::o::p::q::r::s::w::x::y::z::A::B::e'::L) := .s16 (.s4 (.s2 .z))
theorem Upd.z23 : Upd e e' (a::b::c::d::f::g::h::i::j::k::n::o::p::q::r::s::w::x::y::z::A::B::C::e::L) (a::b::c::d::f::g::h::i::j::k::n::o::p::q::r::s::w::x::y::z::A::B::C::e'::L) := .s16 (.s4 (.s2 (.s .z)))
theorem Upd.z24 : Upd e e' (a::b::c::d::f::g::h::i::j::k::n::o::p::q::r::s::w::x::y::z::A::B::C::D::e::L) (a::b::c::d::f::g::h::i::j::k::n::o::p::q::r::s::w::x::y::z::A::B::C::D::e'::L) := .s16 (.s8 .z)
theorem Upd.z25 : Upd e e' (a::b::c::d::f::g::h::i::j::k::n::o::p::q::r::s::w::x::y::z::A::B::C::D::E::e::L) (a::b::c::d::f::g::h::i::j::k::n::o::p::q::r::s::w::x::y::z::A::B::C::D::E::e'::L) := .s16 (.s8 (.s .z))
theorem Upd.z26 : Upd e e' (a::b::c::d::f::g::h::i::j::k::n::o::p::q::r::s::w::x::y::z::A::B::C::D::E::F::e::L) (a::b::c::d::f::g::h::i::j::k::n::o::p::q::r::s::w::x::y::z::A::B::C::D::E::F::e'::L) := .s16 (.s8 (.s2 .z))
theorem Upd.z27 : Upd e e' (a::b::c::d::f::g::h::i::j::k::n::o::p::q::r::s::w::x::y::z::A::B::C::D::E::F::G::e::L) (a::b::c::d::f::g::h::i::j::k::n::o::p::q::r::s::w::x::y::z::A::B::C::D::E::F::G::e'::L) := .s16 (.s8 (.s2 (.s .z)))
theorem Upd.z28 : Upd e e' (a::b::c::d::f::g::h::i::j::k::n::o::p::q::r::s::w::x::y::z::A::B::C::D::E::F::G::H::e::L) (a::b::c::d::f::g::h::i::j::k::n::o::p::q::r::s::w::x::y::z::A::B::C::D::E::F::G::H::e'::L) := .s16 (.s8 (.s4 .z))
theorem Upd.z29 : Upd e e' (a::b::c::d::f::g::h::i::j::k::n::o::p::q::r::s::w::x::y::z::A::B::C::D::E::F::G::H::I::e::L) (a::b::c::d::f::g::h::i::j::k::n::o::p::q::r::s::w::x::y::z::A::B::C::D::E::F::G::H::I::e'::L) := .s16 (.s8 (.s4 (.s .z)))
theorem Upd.z30 : Upd e e' (a::b::c::d::f::g::h::i::j::k::n::o::p::q::r::s::w::x::y::z::A::B::C::D::E::F::G::H::I::J::e::L) (a::b::c::d::f::g::h::i::j::k::n::o::p::q::r::s::w::x::y::z::A::B::C::D::E::F::G::H::I::J::e'::L) := .s16 (.s8 (.s4 (.s2 .z)))
theorem Upd.z31 : Upd e e' (a::b::c::d::f::g::h::i::j::k::n::o::p::q::r::s::w::x::y::z::A::B::C::D::E::F::G::H::I::J::K::e::L) (a::b::c::d::f::g::h::i::j::k::n::o::p::q::r::s::w::x::y::z::A::B::C::D::E::F::G::H::I::J::K::e'::L) := .s16 (.s8 (.s4 (.s2 (.s .z))))
end
section
variable {a b c d f g h i j k n o p q r : Value} {l : List Value}
theorem SetL.z1 : SetL (a::u::l) 1 v (a::v::l) := .s .z
theorem SetL.z2 : SetL (a::b::u::l) 2 v (a::b::v::l) := .s2 .z
theorem SetL.z3 : SetL (a::b::c::u::l) 3 v (a::b::c::v::l) := .s2 (.s .z)
theorem SetL.z4 : SetL (a::b::c::d::u::l) 4 v (a::b::c::d::v::l) := .s4 .z
theorem SetL.z5 : SetL (a::b::c::d::f::u::l) 5 v (a::b::c::d::f::v::l) := .s4 (.s .z)
theorem SetL.z6 : SetL (a::b::c::d::f::g::u::l) 6 v (a::b::c::d::f::g::v::l) := .s4 (.s2 .z)
theorem SetL.z7 : SetL (a::b::c::d::f::g::h::u::l) 7 v (a::b::c::d::f::g::h::v::l) := .s4 (.s2 (.s .z))
theorem SetL.z8 : SetL (a::b::c::d::f::g::h::i::u::l) 8 v (a::b::c::d::f::g::h::i::v::l) := .s8 .z
theorem SetL.z9 : SetL (a::b::c::d::f::g::h::i::j::u::l) 9 v (a::b::c::d::f::g::h::i::j::v::l) := .s8 (.s .z)
theorem SetL.z10 : SetL (a::b::c::d::f::g::h::i::j::k::u::l) 10 v (a::b::c::d::f::g::h::i::j::k::v::l) := .s8 (.s2 .z)
theorem SetL.z11 : SetL (a::b::c::d::f::g::h::i::j::k::n::u::l) 11 v (a::b::c::d::f::g::h::i::j::k::n::v::l) := .s8 (.s2 (.s .z))
theorem SetL.z12 : SetL (a::b::c::d::f::g::h::i::j::k::n::o::u::l) 12 v (a::b::c::d::f::g::h::i::j::k::n::o::v::l) := .s8 (.s4 .z)
theorem SetL.z13 : SetL (a::b::c::d::f::g::h::i::j::k::n::o::p::u::l) 13 v (a::b::c::d::f::g::h::i::j::k::n::o::p::v::l) := .s8 (.s4 (.s .z))
theorem SetL.z14 : SetL (a::b::c::d::f::g::h::i::j::k::n::o::p::q::u::l) 14 v (a::b::c::d::f::g::h::i::j::k::n::o::p::q::v::l) := .s8 (.s4 (.s2 .z))
theorem SetL.z15 : SetL (a::b::c::d::f::g::h::i::j::k::n::o::p::q::r::u::l) 15 v (a::b::c::d::f::g::h::i::j::k::n::o::p::q::r::v::l) := .s8 (.s4 (.s2 (.s .z)))
end
end
section
variable {O : Type} {P : Program} {N : Nat} {c : Cx} {B : O → Exit → Act → World → Prop} {ks : List (KI O)} {m : Option O} {l l' : List (Nat × Value)} {L : List HE} {ops : Array Oper} {rest : List Oper} {op : Op} {ty : TypeId} {p : String} {af : Array Edge} {v : Value} {x t : Nat} {d : Nat}
theorem lR (h : Rd P N c op l L v) (k : WL P N c B ks m ops rest ((d, v) :: l) L) (hd : Nat.blt d N = true := by exact rfl) (hn : nokey d l = true := by exact rfl) : WL P N c B ks m ops (⟨some d, op, ty, p, af, none⟩ :: rest) l L := lRd h hd hn k
theorem lM (h : Lk l t v) (k : WL P N c B ks m ops rest ((d, v) :: l) L) (hd : Nat.blt d N = true := by exact rfl) (hn : nokey d l = true := by exact rfl) : WL P N c B ks m ops (⟨some d, .move (.tmp t), ty, p, af, none⟩ :: rest) l L := lRd (dMove (.t h)) hd hn k
theorem lA (h : Lk l t v) (k : WL P N c B ks m ops rest ((d, v) :: l) L) (hd : Nat.blt d N = true := by exact rfl) (hn : nokey d l = true := by exact rfl) : WL P N c B ks m ops (⟨some d, .assign (.tmp t), ty, p, af, none⟩ :: rest) l L := lRd (dAssign (.t h)) hd hn k
theorem lAK (h : Lk l t v) (kp : Keep l l') (k : WL P N c B ks m ops rest ((d, v) :: l') L) (hd : Nat.blt d N = true := by exact rfl) (hn : nokey d l' = true := by exact rfl) : WL P N c B ks m ops (⟨some d, .assign (.tmp t), ty, p, af, none⟩ :: rest) l L := lRdK (dAssign (.t h)) kp hd hn k
theorem lG {j dj : Nat} {b b' : Bool} (hg : Lk l dj (.bool b')) (hb : b' = b) (h : Rd P N c op l L v) (k : WL P N c B ks m ops rest ((d, v) :: l) L) (hj : (ops[j]?).bind (·.dst) = some dj := by exact rfl) (hd : Nat.blt d N = true := by exact rfl) (hn : nokey d l = true := by exact rfl) : WL P N c B ks m ops (⟨some d, op, ty, p, af, some (j, b)⟩ :: rest) l L := lRdG hj hg hb h hd hn k
end
end Go.Proofs.YtecipnjloenndaaDoor.SX
