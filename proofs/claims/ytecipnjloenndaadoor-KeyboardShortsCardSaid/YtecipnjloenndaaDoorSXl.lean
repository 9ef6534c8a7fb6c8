/-
Panics; calls that may panic; ranges over a function.
-/
import Derived.Test.YtecipnjloenndaaDoorSXk
import Derived.RangeFuncRecord
set_option linter.unusedVariables false
set_option linter.unusedSimpArgs false
namespace Go.Proofs.YtecipnjloenndaaDoor.SX
open Go Go.RowKit

def onE {A B O : Type} (f : A → Option O) (g : B → Option O) : Sum A B → Option O
  | .inl a => f a
  | .inr b => g b
section
variable {O : Type} (P : Program) (N : Nat) (c : Cx) (B : O → Exit → Act → World → Prop) (m : Option O)
/-- At a panic. -/
def WP (ch : List PanicEntry) (l : List (Nat × Value)) (L : List HE) : Prop :=
  ∀ out, m = some out → ∀ a w, Env N c.D a l → St c.F c.R0 c.w0 w L → B out (.panic ch) a w
end
section
variable {O O1 E X : Type} {P : Program} {N : Nat} {c : Cx} {B : O → Exit → Act → World → Prop} {ks : List (KI O)} {m : Option O} {l : List (Nat × Value)} {L : List HE}
  {ops : Array Oper} {rest : List Oper} {ty : TypeId} {p : String} {af : Array Edge}
theorem cEqC {x y : Code} (e : x = y) (h : WC P N c B ks m y l L) : WC P N c B ks m x l L := by subst e; exact h
theorem xPanic {ch : List PanicEntry} (h : WP N c B m ch l L) : WX P N c B ks m (.panic ch) l L := fun out hm a w he hs => by rw [KQ_panic]; exact h out hm a w he hs
theorem pKeep {ch : List PanicEntry} {l' : List (Nat × Value)} (k : Keep l l') (h : WP N c B m ch l' L) : WP N c B m ch l L := fun out hm a w he hs => h out hm a w (he.keep k) hs
theorem pSub {ch : List PanicEntry} {L' : List HE} (s : Sub L L') (h : WP N c B m ch l L') : WP N c B m ch l L := fun out hm a w he hs => h out hm a w he (s.st hs)
theorem pStuck {ch : List PanicEntry} : WP N c B none ch l L := fun out hm => by cases hm
theorem pDone {fn : Func} {ds : List Deferred} {ch : List PanicEntry} {res : O → X → Ending} {Lo : O → X → List HE} {o : O} (hD : c.D = ds) (h : LV P N fn c res Lo o ds (.panicking ch) l L) : WP N c (BFE P fn c res Lo) (some o) ch l L := pLeave hD h
/-- Out of a loop. -/
theorem pInner {S X' : Type} {lJ : S → X' → List (Nat × Value)} {LJ : S → X' → List HE} {e' : Exit} {o : O} {ch : List PanicEntry} (h : WP N c B (some o) ch l L) : WP N c (BJR N c B lJ LJ e') (some (Sum.inr o)) ch l L := fun out ho a w he hs => by
  cases ho
  exact ⟨.inr ⟨_, rfl⟩, h o rfl a w he hs⟩
/-- Ways that meet again, out of which it may be returned. -/
theorem cJoinR {S X : Type} {M1 : Option (Sum S O)} {M2 : S → Option O} {x : Code} (lJ : S → X → List (Nat × Value)) (LJ : S → X → List HE)
    (h1 : WC P N c (BJR N c B lJ LJ .normal) [] M1 x l L) (h2 : ∀ s x, WX P N c B ks (M2 s) .normal (lJ s x) (LJ s x)) : WC P N c B ks (M1.bind (onS M2)) x l L := by
  intro out hm a w he hs
  obtain ⟨s, e1, e2⟩ := Option.bind_eq_some_iff.1 hm
  refine wpIn_mono (h1 s e1 a w he hs) ?_
  cases s with
  | inl s =>
    rintro e a' w' ⟨rfl, x, he', hs'⟩
    exact h2 s x out e2 a' w' he' hs'
  | inr o =>
    cases e2
    rintro e a' w' ⟨rfl | ⟨ch, rfl⟩, hB⟩
    · rw [KQ_ret]; exact hB
    · rw [KQ_panic]; exact hB
theorem lPanic {d : Option Nat} {x : Operand} {t : TypeId} {v : Value} (hx : Ev l x (.iface t v)) (k : WP N c B m [{ v := .iface t v, recovered := false }] l L) : WL P N c B ks m ops (⟨d, .panic x, ty, p, af, none⟩ :: rest) l L := by
  intro out hm a w he hs
  refine wpListIn_plain rfl fun K hK => ⟨fun _ _ => trivial, ?_⟩
  rw [Oper.semAt_eq _ _ _ (by intro cc h; cases h)]
  have hr : (execOp a.eval ⟨d, .panic x, ty, p, af, none⟩).run P w = .halt (.panic (.iface t v)) w := by
    simp only [execOp, he.eval hx, Sem.run_bind, show (Instr.panic (.iface t v)).run P w = .halt (.panic (.iface t v)) w from rfl, Result.andThen]
  rw [hr]
  show KQ P c.rnd B out ks (.panic _) a w
  rw [KQ_panic]
  exact k out hm a w he hs
/-- A contract, at a call in a state. -/
theorem ConE.use {g : FuncId} {args : Array Value} {A Lr : List HE} {m1 : Option O1} {res : O1 → X → Ending} {Lo : O1 → X → List HE} (hc : ConE P g args A m1 res Lo) (pk : Pick L A Lr) {o : O1} (ho : m1 = some o) {w : World} (hs : St c.F c.R0 c.w0 w L) :
    Calls P g args w fun e w' => ∃ x, e = res o x ∧ St c.F c.R0 c.w0 w' (Lo o x ++ Lr) := by
  have h1 := pk.st hs
  obtain ⟨R, h, hsat, hf, kk⟩ := h1.frame
  exact (hc o ho R h w hsat hf).mono fun e w' ⟨x, he, hst⟩ => ⟨x, he, kk w' _ hst⟩
/-- What a call that may panic hands back. -/
def resE {A E X : Type} (rv : A → X → Value) (pv : E → X → Value) : Sum A E → X → Ending
  | .inl o, x => .returned (rv o x)
  | .inr e, x => .panicked [{ v := pv e x, recovered := false }]
def loE {A E X : Type} (L1 : A → X → List HE) (L2 : E → X → List HE) : Sum A E → X → List HE
  | .inl o, x => L1 o x
  | .inr e, x => L2 e x
/-- Where it does not panic; stuck where it does. -/
def noPan {A E : Type} (m : Option (Sum A E)) : Option A := m.bind fun | .inl a => some a | .inr _ => none
theorem conNoPan {P : Program} {f : FuncId} {args : Array Value} {A : List HE} {O1 E X : Type} {m : Option (Sum O1 E)} {rv : O1 → X → Value} {pv : E → X → Value} {L1 : O1 → X → List HE} {L2 : E → X → List HE} (hc : ConE P f args A m (resE rv pv) (loE L1 L2)) : Con P f args A (noPan m) rv L1 := by
  intro out hm R h w hs hf
  obtain ⟨r, e1, e2⟩ := Option.bind_eq_some_iff.1 hm
  cases r with
  | inl o => cases e2; exact hc _ e1 R h w hs hf
  | inr e => cases e2
theorem callE {o : Oper} {g : FuncId} {vs : Array Value} {A Lr : List HE} {m1 : Option (Sum O1 E)} {M2 : O1 → Option O} {M3 : E → Option O} {rv : O1 → X → Value} {pv : E → X → Value} {L1 : O1 → X → List HE} {L2 : E → X → List HE}
    (hc : ConE P g vs A m1 (resE rv pv) (loE L1 L2)) (pk : Pick L A Lr) {K : Act → World → Prop} {out : O} (hm : m1.bind (onE M2 M3) = some out) {a : Act} {w : World} (hr : (execOp a.eval o).run P w = .ok (.enter g vs) w) (he : Env N c.D a l) (hs : St c.F c.R0 c.w0 w L)
    (k1 : ∀ o1 x, m1 = some (.inl o1) → M2 o1 = some out → ∀ w', St c.F c.R0 c.w0 w' (L1 o1 x ++ Lr) → K (a.put o.dst (rv o1 x)) w')
    (k2 : ∀ e x, m1 = some (.inr e) → WP N c B (M3 e) [{ v := pv e x, recovered := false }] l (L2 e x ++ Lr)) : o.wpIn (fence c.rnd) 2 P a w K (KQ P c.rnd B out ks) := by
  obtain ⟨o1, e1, e2⟩ := Option.bind_eq_some_iff.1 hm
  refine opC hr ?_
  refine (hc.use pk e1 hs).mono ?_
  rintro e w' ⟨x, rfl, hst⟩
  cases o1 with
  | inl o1 => exact k1 o1 x e1 e2 w' hst
  | inr e => show KQ P c.rnd B out ks (.panic _) a w'; rw [KQ_panic]; exact k2 e x e1 out e2 a w' he hst
theorem lCallE {d : Nat} {g : FuncId} {xs : List Operand} {vs : List Value} {ats : Array TypeId} {A Lr : List HE} {m1 : Option (Sum O1 E)} {M2 : O1 → Option O} {M3 : E → Option O} {rv : O1 → X → Value} {pv : E → X → Value} {L1 : O1 → X → List HE} {L2 : E → X → List HE} (hg : fnOk P g = true) (ha : EvL l xs vs)
    (hc : ConE P g vs.toArray A m1 (resE rv pv) (loE L1 L2)) (pk : Pick L A Lr) (hd : Nat.blt d N = true) (hn : nokey d l = true) (k1 : ∀ o x, m1 = some (.inl o) → WL P N c B ks (M2 o) ops rest ((d, rv o x) :: l) (L1 o x ++ Lr))
    (k2 : ∀ e x, m1 = some (.inr e) → WP N c B (M3 e) [{ v := pv e x, recovered := false }] l (L2 e x ++ Lr)) :
    WL P N c B ks (m1.bind (onE M2 M3)) ops (⟨some d, .call { callee := .value (.func g), args := xs.toArray, argTypes := ats }, ty, p, af, none⟩ :: rest) l L := by
  intro out hm a w he hs
  refine wpListIn_plain rfl fun K hK => ?_
  refine callE (c := c) (B := B) (ks := ks) hc pk hm (by rw [execOp_call_go, run_callFunc hg]; simp [ha.eq he]) he hs (fun o1 x e1 e2 w' hst => ?_) k2
  exact hK _ _ (k1 o1 x e1 out e2 _ w' (he.put _ hd hn) hst)
theorem lCallEN {d : Option Nat} {g : FuncId} {xs : List Operand} {vs : List Value} {ats : Array TypeId} {A Lr : List HE} {m1 : Option (Sum O1 E)} {M2 : O1 → Option O} {M3 : E → Option O} {rv : O1 → X → Value} {pv : E → X → Value} {L1 : O1 → X → List HE} {L2 : E → X → List HE} (hg : fnOk P g = true) (ha : EvL l xs vs)
    (hc : ConE P g vs.toArray A m1 (resE rv pv) (loE L1 L2)) (pk : Pick L A Lr) (hn : (match d with | some d => nokey d l | none => true) = true) (k1 : ∀ o x, m1 = some (.inl o) → WL P N c B ks (M2 o) ops rest l (L1 o x ++ Lr))
    (k2 : ∀ e x, m1 = some (.inr e) → WP N c B (M3 e) [{ v := pv e x, recovered := false }] l (L2 e x ++ Lr)) :
    WL P N c B ks (m1.bind (onE M2 M3)) ops (⟨d, .call { callee := .value (.func g), args := xs.toArray, argTypes := ats }, ty, p, af, none⟩ :: rest) l L := by
  intro out hm a w he hs
  refine wpListIn_plain rfl fun K hK => ?_
  refine callE (c := c) (B := B) (ks := ks) hc pk hm (by rw [execOp_call_go, run_callFunc hg]; simp [ha.eq he]) he hs (fun o1 x e1 e2 w' hst => ?_) k2
  refine hK _ _ (k1 o1 x e1 out e2 _ w' ?_ hst)
  cases d with
  | none => exact he
  | some d => exact he.skip _ hn

/-- What a call hands back that comes in two forms (a pointer that may be nil). -/
def resS {A E X : Type} (r1 : A → X → Value) (r2 : E → X → Value) : Sum A E → X → Value
  | .inl o, x => r1 o x
  | .inr e, x => r2 e x
theorem lCallS {d : Nat} {g : FuncId} {xs : List Operand} {vs : List Value} {ats : Array TypeId} {A Lr : List HE} {m1 : Option (Sum O1 E)} {M2 : O1 → Option O} {M3 : E → Option O} {r1 : O1 → X → Value} {r2 : E → X → Value} {L1 : O1 → X → List HE} {L2 : E → X → List HE} (hg : fnOk P g = true) (ha : EvL l xs vs)
    (hc : Con P g vs.toArray A m1 (resS r1 r2) (loE L1 L2)) (pk : Pick L A Lr) (hd : Nat.blt d N = true) (hn : nokey d l = true) (k1 : ∀ o x, m1 = some (.inl o) → WL P N c B ks (M2 o) ops rest ((d, r1 o x) :: l) (L1 o x ++ Lr))
    (k2 : ∀ e x, m1 = some (.inr e) → WL P N c B ks (M3 e) ops rest ((d, r2 e x) :: l) (L2 e x ++ Lr)) :
    WL P N c B ks (m1.bind (onE M2 M3)) ops (⟨some d, .call { callee := .value (.func g), args := xs.toArray, argTypes := ats }, ty, p, af, none⟩ :: rest) l L :=
  lCall (M2 := onE M2 M3) hg ha hc pk hd hn fun o x h => match o, h with
    | .inl o, h => k1 o x h
    | .inr e, h => k2 e x h
theorem lCallSN {d : Option Nat} {g : FuncId} {xs : List Operand} {vs : List Value} {ats : Array TypeId} {A Lr : List HE} {m1 : Option (Sum O1 E)} {M2 : O1 → Option O} {M3 : E → Option O} {r1 : O1 → X → Value} {r2 : E → X → Value} {L1 : O1 → X → List HE} {L2 : E → X → List HE} (hg : fnOk P g = true) (ha : EvL l xs vs)
    (hc : Con P g vs.toArray A m1 (resS r1 r2) (loE L1 L2)) (pk : Pick L A Lr) (hn : (match d with | some d => nokey d l | none => true) = true) (k1 : ∀ o x, m1 = some (.inl o) → WL P N c B ks (M2 o) ops rest l (L1 o x ++ Lr))
    (k2 : ∀ e x, m1 = some (.inr e) → WL P N c B ks (M3 e) ops rest l (L2 e x ++ Lr)) :
    WL P N c B ks (m1.bind (onE M2 M3)) ops (⟨d, .call { callee := .value (.func g), args := xs.toArray, argTypes := ats }, ty, p, af, none⟩ :: rest) l L :=
  lCallN (M2 := onE M2 M3) hg ha hc pk hn fun o x h => match o, h with
    | .inl o, h => k1 o x h
    | .inr e, h => k2 e x h
theorem dPtrNilEq {t yt : TypeId} {e : TypeId} {x y : Operand} (ht : P.underlying t = some (.pointer e)) (hx : Ev l x (.pointer none)) (hy : Ev l y (.pointer none)) : Rd P N c (.binOp .eql t x y yt) l L (.bool true) := dBin hx hy rfl fun w => by
  have h : ∀ d, (Op.equalIn (d + 1) t (.pointer none) (.pointer none)).run P w = .ok true w := fun d => by
    simp only [Op.equalIn, Sem.run_bind, run_underlying ht, Result.andThen_ok, Sem.run_pure]
    rfl
  simp only [binOp]
  simp [Op.equal, Op.maxDepth, h 9999]
theorem dPtrNilNe {t yt : TypeId} {e : TypeId} {x y : Operand} (ht : P.underlying t = some (.pointer e)) (hx : Ev l x (.pointer none)) (hy : Ev l y (.pointer none)) : Rd P N c (.binOp .neq t x y yt) l L (.bool false) := dBin hx hy rfl fun w => by
  have h : ∀ d, (Op.equalIn (d + 1) t (.pointer none) (.pointer none)).run P w = .ok true w := fun d => by
    simp only [Op.equalIn, Sem.run_bind, run_underlying ht, Result.andThen_ok, Sem.run_pure]
    rfl
  simp only [binOp]
  simp [Op.equal, Op.maxDepth, h 9999]
theorem dMakeFuncL {f : Fn} {ys : List Operand} {vs : List Value} (h : EvL l ys vs) : Rd P N c (.makeFunc f #[] ys.toArray) l L (.func f #[] vs.toArray) := dMakeFunc (us := #[]) (fun a he => by simp) (fun a he => by simp [h.eq he])
/-- An element of a slice of slices that is only read. -/
theorem cLoadRoS {α : Type} {k : Kind α} {xs : List (List α)} {v : Value} {L' : List HE} (r : Rem (.ro (kSl (kSl k)) [v] xs) L L') {t : TypeId} {x : Operand} {i : Nat} {y : List α} (ht : aggT P t = some false) (hx : Ev l x (elp v (kSl k).n i 0)) (hy : xs[i]? = some y) :
    Ch P N c (.load t x) l L (fun w : Value => w) (fun w => .ro (kSl k) [w] y :: L) := fun op a w hop he hs => by
  obtain ⟨R, h, hsat, hle, hR, rest⟩ := (hs.rem r).ex
  have hsat2 := r.iff.2 hsat
  obtain ⟨ha, hb', _, _, ⟨_, A, cap, h1, h2, h3, h4⟩, _⟩ := hsat
  cases h1
  have hsl : SlAt R w (.slice A xs.length cap) (kSl k) xs := by
    refine ⟨A, cap, rfl, h2, h3, h4.imp id ?_⟩
    rintro ⟨b, off, css, cells, t, fr, e1, e2, e3, e4⟩
    exact ⟨b, off, css, cells, t, fr, e1, e2, hR _ _ e3, e4⟩
  obtain ⟨b, off, cs, cells, t', fr, hel, hr, hb, hc⟩ := hsl.elem hy
  have hr0 := hr
  obtain ⟨A2, cap2, rfl, g2, g3, g4⟩ := hr
  have hx' := he.eval hx
  rw [hel] at hx'
  have hcell : w.cell? ⟨b, off, none⟩ = some (.slice A2 y.length cap2) := by
    rw [cell_hp hb]
    simpa using hc 0 _ rfl
  refine ⟨.slice A2 y.length cap2, w, ?_, hs.os, hs.tape, hs.output, hs.size, R, h, ⟨PH.emp, h, (PH.emp_un _).symm, PH.emp_dis _, ⟨rfl, hr0⟩, hsat2⟩, hle, hR, rest⟩
  simp [execOp, hop, hx', Instr.loadAt, Instr.sureAddr, run_loadVar_one ht hcell]
/-! ### Interface values -/
def isIf (P : Program) (t : TypeId) : Bool := match P.underlying t with
  | some (.interface _) => true
  | _ => false
theorem isIf_ex {P : Program} {t : TypeId} (h : isIf P t = true) : ∃ d, P.underlying t = some (.interface d) := by
  unfold isIf at h
  split at h
  · exact ⟨_, by assumption⟩
  · cases h
def notIf (P : Program) (t : TypeId) : Bool := match P.underlying t with
  | some (.interface _) => false
  | some _ => true
  | none => false
theorem dMkIface {t : TypeId} {x : Operand} {v : Value} (ht : notIf P t = true) (hx : Ev l x v) : Rd P N c (.makeInterface t x) l L (.iface t v) := fun o a w ho he hs => by
  unfold notIf at ht
  cases hu : P.underlying t with
  | none => rw [hu] at ht; cases ht
  | some d =>
    rw [hu] at ht
    simp only [execOp, ho, he.eval hx, Instr.makeInterface, Sem.run_bind, run_underlying hu, Result.andThen_ok]
    cases d <;> first | rfl | cases ht
theorem dEqNilIf {t yt : TypeId} {x y : Operand} {T : TypeId} {v : Value} (hi : isIf P t = true) (hx : Ev l x (.iface T v)) (hy : Ev l y .nilIface) : Rd P N c (.binOp .eql t x y yt) l L (.bool false) := fun o a w ho he hs => by
  obtain ⟨d, ht⟩ := isIf_ex hi
  have h : ∀ d, (Op.equalIn (d + 1) t (.iface T v) .nilIface).run P w = .ok false w := fun d => by
    simp only [Op.equalIn, Sem.run_bind, run_underlying ht, Result.andThen_ok, Sem.run_pure]
  have hq : (eqGuard .eql t x y (.iface T v) .nilIface).run P w = .ok () w := by unfold eqGuard; simp
  simp [execOp, ho, he.eval hx, he.eval hy, hq, binOp, Op.equal, Op.maxDepth, h 9999]
theorem dEqNilNil {t yt : TypeId} {x : Operand} (hi : isIf P t = true) (hx : Ev l x .nilIface) : Rd P N c (.binOp .eql t x (.const .nilIface) yt) l L (.bool true) := fun o a w ho he hs => by
  obtain ⟨d, ht⟩ := isIf_ex hi
  have h : ∀ d, (Op.equalIn (d + 1) t .nilIface .nilIface).run P w = .ok true w := fun d => by
    simp only [Op.equalIn, Sem.run_bind, run_underlying ht, Result.andThen_ok, Sem.run_pure]
  have hq : (eqGuard .eql t x (.const .nilIface) .nilIface .nilIface).run P w = .ok () w := by unfold eqGuard; simp
  simp [execOp, ho, he.eval hx, show a.eval (.const .nilIface) = .nilIface from rfl, hq, binOp, Op.equal, Op.maxDepth, h 9999]
theorem dNeNilIf {t yt : TypeId} {x y : Operand} {T : TypeId} {v : Value} (hi : isIf P t = true) (hx : Ev l x (.iface T v)) (hy : Ev l y .nilIface) : Rd P N c (.binOp .neq t x y yt) l L (.bool true) := fun o a w ho he hs => by
  obtain ⟨d, ht⟩ := isIf_ex hi
  have h : ∀ d, (Op.equalIn (d + 1) t (.iface T v) .nilIface).run P w = .ok false w := fun d => by
    simp only [Op.equalIn, Sem.run_bind, run_underlying ht, Result.andThen_ok, Sem.run_pure]
  have hq : (eqGuard .neq t x y (.iface T v) .nilIface).run P w = .ok () w := by unfold eqGuard; simp
  simp [execOp, ho, he.eval hx, he.eval hy, hq, binOp, Op.equal, Op.maxDepth, h 9999]
theorem dNeNilNil {t yt : TypeId} {x : Operand} (hi : isIf P t = true) (hx : Ev l x .nilIface) : Rd P N c (.binOp .neq t x (.const .nilIface) yt) l L (.bool false) := fun o a w ho he hs => by
  obtain ⟨d, ht⟩ := isIf_ex hi
  have h : ∀ d, (Op.equalIn (d + 1) t .nilIface .nilIface).run P w = .ok true w := fun d => by
    simp only [Op.equalIn, Sem.run_bind, run_underlying ht, Result.andThen_ok, Sem.run_pure]
  have hq : (eqGuard .neq t x (.const .nilIface) .nilIface .nilIface).run P w = .ok () w := by unfold eqGuard; simp
  simp [execOp, ho, he.eval hx, show a.eval (.const .nilIface) = .nilIface from rfl, hq, binOp, Op.equal, Op.maxDepth, h 9999]
/-- It is of that type. -/
theorem dAssert {x : Operand} {xt t : TypeId} {v : Value} (ht : notIf P t = true) (hx : Ev l x (.iface t v)) : Rd P N c (.typeAssert x xt t true) l L (.tuple #[v, .bool true]) := fun o a w ho he hs => by
  unfold notIf at ht
  cases hu : P.underlying t with
  | none => rw [hu] at ht; cases ht
  | some d =>
    rw [hu] at ht
    simp only [execOp, ho, he.eval hx, Instr.typeAssert, Sem.run_bind, run_underlying hu, Result.andThen_ok]
    cases d <;> first | (simp; done) | cases ht
theorem dAssertNil {x : Operand} {xt t : TypeId} {z : Value} (ht : notIf P t = true) (hz : zeroT P t = some z) (hx : Ev l x .nilIface) : Rd P N c (.typeAssert x xt t true) l L (.tuple #[z, .bool false]) := fun o a w ho he hs => by
  unfold notIf at ht
  cases hu : P.underlying t with
  | none => rw [hu] at ht; cases ht
  | some d =>
    rw [hu] at ht
    simp only [execOp, ho, he.eval hx, Instr.typeAssert, Sem.run_bind, run_underlying hu, Result.andThen_ok]
    cases d <;> first | (simp [run_zero hz]; done) | cases ht

/-! ### Ranges over a function -/
/-- The loop's record. -/
def rc (fn : FuncId) (T : Array Value) (ps : List Tmp) (assign body : Code) (D : Nat) (st : LoopState) (pe : Option Code) : Obj :=
  .loop { state := st, pending := pe, fn, tmps := T, params := ps.toArray, assign, body, defers := D }
def notC (o : Obj) : Prop := match o with | .cells .. => False | _ => True
theorem St.setObj {F R0 : PH} {w0 w : World} {b : Nat} {o o' : Obj} {L L' : List HE} (r : Upd (.obj b o) (.obj b o') L L') (ho : notC o') (hs : St F R0 w0 w L) : St F R0 w0 (w.putObj b o') L' :=
  hs.upd r fun L1 h1 => h1.modify fun R h hsem hf => by
    obtain ⟨rfl, _⟩ := hsem
    have hb : hp w b = some o := hf.h_le _ _ (PH.one_same _ _)
    have hlt : b < w.heap.size := hp_lt hb
    exact ⟨b, o', fun i hi => PH.one_other _ hi, by rw [PH.one_same]; simp, ⟨rfl, ho⟩, by simp, World.putObj_heap_same hlt, fun i hi => World.putObj_heap_other hi, rfl, rfl, rfl⟩
theorem obj_hp {F R0 : PH} {w0 w : World} {b : Nat} {o : Obj} {L L' : List HE} (hs : St F R0 w0 w L) (r : Rem (.obj b o) L L') : w.heap[b]? = some o := by
  obtain ⟨R, h, ⟨h1, h2, rfl, d, ⟨rfl, _⟩, _⟩, hle, _⟩ := (hs.rem r).ex
  exact hle b o (PH.le_un_left _ _ _ _ (PH.one_same _ _))
/-- The last one goes ahead. -/
theorem St.swap1 {F R0 : PH} {w0 w : World} {A : List HE} {e : HE} (hs : St F R0 w0 w (A ++ [e])) : St F R0 w0 w (e :: A) := by
  obtain ⟨R, h, hsat, rest⟩ := hs.ex
  obtain ⟨h1, h2, rfl, d, s1, h3, h4, rfl, d', s2, s3⟩ := sat_append.1 hsat
  have : h4 = PH.emp := s3
  subst this
  rw [PH.un_emp] at *
  exact ⟨hs.os, hs.tape, hs.output, hs.size, R, _, ⟨h3, h1, PH.un_comm d, PH.dis_symm d, s2, s1⟩, rest⟩
def isL {S J : Type} : Sum S J → Bool
  | .inl _ => true
  | .inr _ => false
/-- What a round, and the function, comes to. -/
def loR {S J X : Type} (fn : FuncId) (T : Array Value) (ps : List Tmp) (assign body : Code) (D h : Nat) (jc : Code) (L1 : S → X → List HE) (L2 : J → X → List HE) : Sum S J → X → List HE
  | .inl s, x => .obj h (rc fn T ps assign body D .ready none) :: L1 s x
  | .inr j, x => .obj h (rc fn T ps assign body D .done (some jc)) :: L2 j x
/-- At a round's end. -/
def BRnd {S J X : Type} (P : Program) (c : Cx) (fn : FuncId) (T : Array Value) (ps : List Tmp) (assign body : Code) (D h : Nat) (jc : Code) (L1 : S → X → List HE) (L2 : J → X → List HE) : Sum S J → Exit → Act → World → Prop :=
  fun out => roundPost P h fun en w' => ∃ x, en = .returned (.bool (isL out)) ∧ St c.F c.R0 c.w0 w' (loR fn T ps assign body D h jc L1 L2 out x)
section
variable {S J : Type} {fn : FuncId} {T : Array Value} {ps : List Tmp} {assign body jc : Code} {D h : Nat} {L1 : S → X → List HE} {L2 : J → X → List HE} {L' : List HE}
theorem xRound1 (s : S) (x : X) (r : Upd (.obj h (rc fn T ps assign body D .busy none)) (.obj h (rc fn T ps assign body D .ready none)) L L') (sb : Sub L' (.obj h (rc fn T ps assign body D .ready none) :: L1 s x)) :
    WX P N c (BRnd P c fn T ps assign body D h jc L1 L2) [] (some (.inl s)) .normal l L := by
  intro out ho a w he hs
  cases ho
  obtain ⟨Lm, r1, r2⟩ := r.rem
  have hb := obj_hp hs r1
  exact ⟨_, _, run_endRound none hb, x, rfl, sb.st (hs.setObj r trivial)⟩
theorem xRound2 (j : J) (x : X) (r : Upd (.obj h (rc fn T ps assign body D .busy none)) (.obj h (rc fn T ps assign body D .done (some jc))) L L') (sb : Sub L' (.obj h (rc fn T ps assign body D .done (some jc)) :: L2 j x)) {id : Nat} (hj : jc = .exit id) :
    WX P N c (BRnd P c fn T ps assign body D h jc L1 L2) [] (some (.inr j)) (.exit id) l L := by
  intro out ho a w he hs
  cases ho
  subst hj
  obtain ⟨Lm, r1, r2⟩ := r.rem
  have hb := obj_hp hs r1
  exact ⟨_, _, run_endRound (some (.exit id)) hb, x, rfl, sb.st (hs.setObj r trivial)⟩
theorem rRound2 (j : J) (x : X) (r : Upd (.obj h (rc fn T ps assign body D .busy none)) (.obj h (rc fn T ps assign body D .done (some jc))) L L') (sb : Sub L' (.obj h (rc fn T ps assign body D .done (some jc)) :: L2 j x)) (hj : jc = .ret) :
    ∀ out, some (Sum.inr j) = some out → ∀ a w, Env N c.D a l → St c.F c.R0 c.w0 w L → BRnd P c fn T ps assign body D h jc L1 L2 out .ret a w := by
  intro out ho a w he hs
  cases ho
  subst hj
  obtain ⟨Lm, r1, r2⟩ := r.rem
  have hb := obj_hp hs r1
  exact ⟨_, _, run_endRound (some .ret) hb, x, rfl, sb.st (hs.setObj r trivial)⟩
end
/-- How many frames more are at hand is of no account where the fence asks for none. -/
theorem wpIn_any {r : Option Nat} {n n' : Nat} {x : Code} {Q : Exit → Act → World → Prop} {a : Act} {w : World} (h : x.wpIn (fence r) n P Q a w) : x.wpIn (fence r) n' P Q a w := fun b k cs hro hb hr => h b k cs hro hb fun d hd => by cases hd
/-- yield's temporaries. -/
def withT (T : Array Value) (ps : List Tmp) (vs : List Value) : Array Value := (ps.toArray.zip vs.toArray).foldl (fun tmps (t, a) => tmps.setIfInBounds t a) T
/-- What is asked of the assignments' end: the round begins. -/
def IB {S J X : Type} (P : Program) (c : Cx) (fn : FuncId) (T : Array Value) (ps : List Tmp) (assign body : Code) (D h : Nat) (jc : Code) (L1 : S → X → List HE) (L2 : J → X → List HE) : Sum S J → Act → World → Prop :=
  fun out a w => ∃ w2, (Instr.beginRound h).run P w = .ok () w2 ∧ body.wpIn (fence (some h)) 2 P (BRnd P c fn T ps assign body D h jc L1 L2 out) a w2
def BN {O : Type} : O → Exit → Act → World → Prop := fun _ _ _ _ => False
theorem xBegin {S J : Type} {fn : FuncId} {T : Array Value} {ps : List Tmp} {assign body jc : Code} {D h : Nat} {L1 : S → X → List HE} {L2 : J → X → List HE} {L' : List HE} {m : Option (Sum S J)} (hrn : c.rnd = some h) (r : Upd (.obj h (rc fn T ps assign body D .ready none)) (.obj h (rc fn T ps assign body D .busy none)) L L')
    (k : WC P N c (BRnd P c fn T ps assign body D h jc L1 L2) [] m body l L') : WX P N c BN [.fin (IB P c fn T ps assign body D h jc L1 L2)] m .normal l L := by
  intro out hm a w he hs
  obtain ⟨Lm, r1, r2⟩ := r.rem
  have := k out hm a _ he (hs.setObj r trivial)
  rw [hrn] at this
  exact ⟨_, run_beginRound (obj_hp hs r1) rfl, this⟩
/-- A call of yield. -/
theorem yieldRun {N0 : Nat} {S J : Type} {fn : FuncId} {T : Array Value} {ps : List Tmp} {assign body jc : Code} {D h : Nat} {vs : List Value} {L1 : S → X → List HE} {L2 : J → X → List HE} {Lr : List HE} {m1 : Option (Sum S J)} {l0 : List (Nat × Value)} {o1 : Sum S J} {w : World}
    (hsz : vs.length = ps.length) (hT : Env N0 [] ⟨withT T ps vs, []⟩ l0) (r : Rem (.obj h (rc fn T ps assign body D .ready none)) L Lr)
    (hb : ∀ c' : Cx, c'.D = [] → c'.rnd = some h → WC P N0 c' BN [.fin (IB P c' fn T ps assign body D h jc L1 L2)] m1 assign l0 L) (hm : m1 = some o1) (hs : St c.F c.R0 c.w0 w L) :
    ∃ f tmps as bd, (Instr.yield h vs.toArray).run P w = .ok (.round h f tmps as bd) w ∧ RoundIn (fence none) 1 P h f tmps as bd w fun e w' => ∃ x, e = .returned (.bool (isL o1)) ∧ St c.F c.R0 c.w0 w' (loR fn T ps assign body D h jc L1 L2 o1 x) := by
  have hob := obj_hp hs r
  refine ⟨_, _, _, _, run_yield hob (by simp [hsz]), ?_⟩
  refine roundIn_of_wpIn (F := fence none) trivial ?_
  refine wpIn_mono (wpIn_any (n := 2) (r := some h) (hb ⟨[], some h, c.F, c.R0, c.w0⟩ rfl rfl o1 hm _ _ hT hs)) ?_
  intro e a' w' hh
  cases e with
  | normal =>
    obtain ⟨w2, h1, h2⟩ := hh
    exact ⟨w2, h1, wpIn_any (n := 2) (r := some h) h2⟩
  | exit id => exact hh
  | goto id => exact hh
  | ret => exact hh
  | panic ch => exact hh
  | outgrown => exact hh
theorem env1 {N0 : Nat} {T : Array Value} {p : Tmp} {v : Value} {l : List (Nat × Value)} (h : Env N0 [] ⟨T, []⟩ l) (hd : Nat.blt p N0 = true) (hn : nokey p l = true) : Env N0 [] ⟨withT T [p] [v], []⟩ ((p, v) :: l) := by
  have := h.put v hd hn
  simpa [withT, Act.put] using this
theorem env2 {N0 : Nat} {T : Array Value} {p q : Tmp} {v u : Value} {l : List (Nat × Value)} (h : Env N0 [] ⟨T, []⟩ l) (hd : Nat.blt p N0 = true) (hn : nokey p l = true) (hd2 : Nat.blt q N0 = true) (hn2 : nokey q ((p, v) :: l) = true) : Env N0 [] ⟨withT T [p, q] [v, u], []⟩ ((q, u) :: (p, v) :: l) := by
  have := (h.put v hd hn).put u hd2 hn2
  simpa [withT, Act.put] using this
theorem lYield {N0 : Nat} {S J : Type} {fn : FuncId} {T : Array Value} {ps : List Tmp} {assign body jc : Code} {D h d : Nat} {f : Operand} {xs : List Operand} {vs : List Value} {ats : Array TypeId} {L1 : S → X → List HE} {L2 : J → X → List HE} {Lr : List HE} {m1 : Option (Sum S J)} {M2 : S → Option O} {M3 : J → Option O} {l0 : List (Nat × Value)}
    (hf : Ev l f (.func (.yield h) #[] #[])) (ha : EvL l xs vs) (hsz : vs.length = ps.length) (hT : Env N0 [] ⟨withT T ps vs, []⟩ l0) (r : Rem (.obj h (rc fn T ps assign body D .ready none)) L Lr) (hd : Nat.blt d N = true) (hn : nokey d l = true)
    (hb : ∀ c' : Cx, c'.D = [] → c'.rnd = some h → WC P N0 c' BN [.fin (IB P c' fn T ps assign body D h jc L1 L2)] m1 assign l0 L)
    (k1 : ∀ s x, m1 = some (.inl s) → WL P N c B ks (M2 s) ops rest ((d, .bool true) :: l) (.obj h (rc fn T ps assign body D .ready none) :: L1 s x))
    (k2 : ∀ j x, m1 = some (.inr j) → WL P N c B ks (M3 j) ops rest ((d, .bool false) :: l) (.obj h (rc fn T ps assign body D .done (some jc)) :: L2 j x)) :
    WL P N c B ks (m1.bind (onE M2 M3)) ops (⟨some d, .call { callee := .value f, args := xs.toArray, argTypes := ats }, ty, p, af, none⟩ :: rest) l L := by
  intro out hm a w he hs
  obtain ⟨o1, e1, e2⟩ := Option.bind_eq_some_iff.1 hm
  obtain ⟨f', tmps, as, bd, hy, hR⟩ := yieldRun (c := c) (jc := jc) hsz hT r hb e1 hs
  refine wpListIn_plain rfl fun K hK => ⟨fun _ _ => trivial, ?_⟩
  rw [Oper.semAt_eq _ _ _ (by intro cc h; cases h)]
  have hr : (execOp a.eval ⟨some d, .call { callee := .value f, args := xs.toArray, argTypes := ats }, ty, p, af, none⟩).run P w = .ok (.round h f' tmps as bd) w := by
    simp [execOp, resolve, he.eval hf, Deferred.ofValue, invoke, ha.eq he, hy]
  rw [hr]
  refine ⟨fun h => (by cases h), RoundIn.mono hR ?_⟩
  rintro e w' ⟨x, rfl, hst⟩
  cases o1 with
  | inl s => exact hK _ _ (k1 s x e1 out e2 _ w' (he.put _ hd hn) hst)
  | inr j => exact hK _ _ (k2 j x e1 out e2 _ w' (he.put _ hd hn) hst)
/-- Where the order of what is around is drawn. -/
theorem mYield {N0 : Nat} {S J : Type} {fn : FuncId} {T : Array Value} {ps : List Tmp} {assign body jc : Code} {D h d i : Nat} {f : Operand} {xs : List Operand} {vs : List Value} {ats : Array TypeId} {L1y A1 B1 : S → X → List HE} {L2y A2 B2 : J → X → List HE} {Lr L0 L1 Lx : List HE} {m1 : Option (Sum S J)} {M2 : S → Option O} {M3 : J → Option O} {l0 : List (Nat × Value)} {E : List Nat} {plan : List (Nat × How)}
    (hE : E.contains i = true) (hi : ops[i]? = some ⟨some d, .call { callee := .value f, args := xs.toArray, argTypes := ats }, ty, p, af, none⟩) (hf : Ev l f (.func (.yield h) #[] #[])) (ha : EvL l xs vs) (hsz : vs.length = ps.length) (hT : Env N0 [] ⟨withT T ps vs, []⟩ l0) (r : Rem (.obj h (rc fn T ps assign body D .ready none)) L Lr) (hd : Nat.blt d N = true) (hn : nokey d l = true)
    (hb : ∀ c' : Cx, c'.D = [] → c'.rnd = some h → WC P N0 c' BN [.fin (IB P c' fn T ps assign body D h jc L1y L2y)] m1 assign l0 L)
    (s1 : ∀ s x, Sub (.obj h (rc fn T ps assign body D .ready none) :: L1y s x) (A1 s x)) (a1 : ∀ s x, App L1 (B1 s x) (A1 s x)) (s2 : ∀ j x, Sub (.obj h (rc fn T ps assign body D .done (some jc)) :: L2y j x) (A2 j x)) (a2 : ∀ j x, App L1 (B2 j x) (A2 j x))
    (k1 : ∀ s x, m1 = some (.inl s) → WM P N c B ks (M2 s) ops E L0 L1 Lx plan ((d, .bool true) :: l) (A1 s x))
    (k2 : ∀ j x, m1 = some (.inr j) → WM P N c B ks (M3 j) ops E L0 L1 Lx plan ((d, .bool false) :: l) (A2 j x)) :
    WM P N c B ks (m1.bind (onE M2 M3)) ops E L0 L1 Lx ((i, .only) :: plan) l L := by
  intro out hm a listed c' hI he
  obtain ⟨o1, e1, e2⟩ := Option.bind_eq_some_iff.1 hm
  refine hI.only hE hi (wanted_none rfl) fun w hw => ?_
  obtain ⟨f', tmps, as, bd, hy, hR⟩ := yieldRun (c := c) (jc := jc) hsz hT r hb e1 hw
  have hr : (execOp a.eval ⟨some d, .call { callee := .value f, args := xs.toArray, argTypes := ats }, ty, p, af, none⟩).run P w = .ok (.round h f' tmps as bd) w := by
    simp [execOp, resolve, he.eval hf, Deferred.ofValue, invoke, ha.eq he, hy]
  rw [hr]
  refine RoundIn.mono (F := fence none) (n := 1) hR ?_
  rintro e w' ⟨x, rfl, hst⟩
  refine .inl ⟨_, rfl, ?_⟩
  cases o1 with
  | inl s => exact ⟨_, _, a1 s x, (s1 s x).st hst, fun c2 hI' => k1 s x e1 out e2 _ _ c2 hI' (he.put _ hd hn)⟩
  | inr j => exact ⟨_, _, a2 j x, (s2 j x).st hst, fun c2 hI' => k2 j x e1 out e2 _ _ c2 hI' (he.put _ hd hn)⟩
theorem mYieldL {N0 : Nat} {S J : Type} {fn : FuncId} {T : Array Value} {ps : List Tmp} {assign body jc : Code} {D h d i : Nat} {f : Operand} {xs : List Operand} {vs : List Value} {ats : Array TypeId} {L1y A1 B1 : S → X → List HE} {L2y : J → X → List HE} {Lr L0 L1 Lx : List HE} {m1 : Option (Sum S J)} {M2 : S → Option O} {l0 : List (Nat × Value)} {E : List Nat} {plan : List (Nat × How)}
    (hE : E.contains i = true) (hi : ops[i]? = some ⟨some d, .call { callee := .value f, args := xs.toArray, argTypes := ats }, ty, p, af, none⟩) (hf : Ev l f (.func (.yield h) #[] #[])) (ha : EvL l xs vs) (hsz : vs.length = ps.length) (hT : Env N0 [] ⟨withT T ps vs, []⟩ l0) (r : Rem (.obj h (rc fn T ps assign body D .ready none)) L Lr) (hd : Nat.blt d N = true) (hn : nokey d l = true)
    (hb : ∀ c' : Cx, c'.D = [] → c'.rnd = some h → WC P N0 c' BN [.fin (IB P c' fn T ps assign body D h jc L1y L2y)] m1 assign l0 L)
    (s1 : ∀ s x, Sub (.obj h (rc fn T ps assign body D .ready none) :: L1y s x) (A1 s x)) (a1 : ∀ s x, App L1 (B1 s x) (A1 s x))
    (k1 : ∀ s x, m1 = some (.inl s) → WM P N c B ks (M2 s) ops E L0 L1 Lx plan ((d, .bool true) :: l) (A1 s x)) :
    WM P N c B ks (m1.bind (onE M2 (fun (_ : J) => none))) ops E L0 L1 Lx ((i, .only) :: plan) l L := by
  intro out hm a listed c' hI he
  obtain ⟨o1, e1, e2⟩ := Option.bind_eq_some_iff.1 hm
  refine hI.only hE hi (wanted_none rfl) fun w hw => ?_
  obtain ⟨f', tmps, as, bd, hy, hR⟩ := yieldRun (c := c) (jc := jc) hsz hT r hb e1 hw
  have hr : (execOp a.eval ⟨some d, .call { callee := .value f, args := xs.toArray, argTypes := ats }, ty, p, af, none⟩).run P w = .ok (.round h f' tmps as bd) w := by
    simp [execOp, resolve, he.eval hf, Deferred.ofValue, invoke, ha.eq he, hy]
  rw [hr]
  refine RoundIn.mono (F := fence none) (n := 1) hR ?_
  rintro e w' ⟨x, rfl, hst⟩
  refine .inl ⟨_, rfl, ?_⟩
  cases o1 with
  | inl s => exact ⟨_, _, a1 s x, (s1 s x).st hst, fun c2 hI' => k1 s x e1 out e2 _ _ c2 hI' (he.put _ hd hn)⟩
  | inr j => cases e2
theorem mYieldR {N0 : Nat} {S J : Type} {fn : FuncId} {T : Array Value} {ps : List Tmp} {assign body jc : Code} {D h d i : Nat} {f : Operand} {xs : List Operand} {vs : List Value} {ats : Array TypeId} {L1y : S → X → List HE} {L2y A2 B2 : J → X → List HE} {Lr L0 L1 Lx : List HE} {m1 : Option (Sum S J)} {M3 : J → Option O} {l0 : List (Nat × Value)} {E : List Nat} {plan : List (Nat × How)}
    (hE : E.contains i = true) (hi : ops[i]? = some ⟨some d, .call { callee := .value f, args := xs.toArray, argTypes := ats }, ty, p, af, none⟩) (hf : Ev l f (.func (.yield h) #[] #[])) (ha : EvL l xs vs) (hsz : vs.length = ps.length) (hT : Env N0 [] ⟨withT T ps vs, []⟩ l0) (r : Rem (.obj h (rc fn T ps assign body D .ready none)) L Lr) (hd : Nat.blt d N = true) (hn : nokey d l = true)
    (hb : ∀ c' : Cx, c'.D = [] → c'.rnd = some h → WC P N0 c' BN [.fin (IB P c' fn T ps assign body D h jc L1y L2y)] m1 assign l0 L)
    (s2 : ∀ j x, Sub (.obj h (rc fn T ps assign body D .done (some jc)) :: L2y j x) (A2 j x)) (a2 : ∀ j x, App L1 (B2 j x) (A2 j x))
    (k2 : ∀ j x, m1 = some (.inr j) → WM P N c B ks (M3 j) ops E L0 L1 Lx plan ((d, .bool false) :: l) (A2 j x)) :
    WM P N c B ks (m1.bind (onE (fun (_ : S) => none) M3)) ops E L0 L1 Lx ((i, .only) :: plan) l L := by
  intro out hm a listed c' hI he
  obtain ⟨o1, e1, e2⟩ := Option.bind_eq_some_iff.1 hm
  refine hI.only hE hi (wanted_none rfl) fun w hw => ?_
  obtain ⟨f', tmps, as, bd, hy, hR⟩ := yieldRun (c := c) (jc := jc) hsz hT r hb e1 hw
  have hr : (execOp a.eval ⟨some d, .call { callee := .value f, args := xs.toArray, argTypes := ats }, ty, p, af, none⟩).run P w = .ok (.round h f' tmps as bd) w := by
    simp [execOp, resolve, he.eval hf, Deferred.ofValue, invoke, ha.eq he, hy]
  rw [hr]
  refine RoundIn.mono (F := fence none) (n := 1) hR ?_
  rintro e w' ⟨x, rfl, hst⟩
  refine .inl ⟨_, rfl, ?_⟩
  cases o1 with
  | inl s => cases e2
  | inr j => exact ⟨_, _, a2 j x, (s2 j x).st hst, fun c2 hI' => k2 j x e1 out e2 _ _ c2 hI' (he.put _ hd hn)⟩
/-- Where it is guarded. -/
theorem lYieldG {N0 : Nat} {S J : Type} {fn : FuncId} {T : Array Value} {ps : List Tmp} {assign body jc : Code} {D h d j0 dj : Nat} {b b' : Bool} {f : Operand} {xs : List Operand} {vs : List Value} {ats : Array TypeId} {L1 : S → X → List HE} {L2 : J → X → List HE} {Lr : List HE} {m1 : Option (Sum S J)} {M2 : S → Option O} {M3 : J → Option O} {l0 : List (Nat × Value)}
    (hj0 : (ops[j0]?).bind (·.dst) = some dj) (hgd : Lk l dj (.bool b')) (hbb : b' = b) (hf : Ev l f (.func (.yield h) #[] #[])) (ha : EvL l xs vs) (hsz : vs.length = ps.length) (hT : Env N0 [] ⟨withT T ps vs, []⟩ l0) (r : Rem (.obj h (rc fn T ps assign body D .ready none)) L Lr) (hd : Nat.blt d N = true) (hn : nokey d l = true)
    (hb : ∀ c' : Cx, c'.D = [] → c'.rnd = some h → WC P N0 c' BN [.fin (IB P c' fn T ps assign body D h jc L1 L2)] m1 assign l0 L)
    (k1 : ∀ s x, m1 = some (.inl s) → WL P N c B ks (M2 s) ops rest ((d, .bool true) :: l) (.obj h (rc fn T ps assign body D .ready none) :: L1 s x))
    (k2 : ∀ j x, m1 = some (.inr j) → WL P N c B ks (M3 j) ops rest ((d, .bool false) :: l) (.obj h (rc fn T ps assign body D .done (some jc)) :: L2 j x)) :
    WL P N c B ks (m1.bind (onE M2 M3)) ops (⟨some d, .call { callee := .value f, args := xs.toArray, argTypes := ats }, ty, p, af, some (j0, b)⟩ :: rest) l L := by
  subst hbb
  intro out hm a w he hs
  obtain ⟨o1, e1, e2⟩ := Option.bind_eq_some_iff.1 hm
  obtain ⟨f', tmps, as, bd, hy, hR⟩ := yieldRun (c := c) (jc := jc) hsz hT r hb e1 hs
  refine wpListIn_step fun K hK => ?_
  have hw : Region.wanted ⟨some d, .call { callee := .value f, args := xs.toArray, argTypes := ats }, ty, p, af, some (j0, b')⟩ (yielded ops a.tmps) = true := by simp [Region.wanted, yielded, hj0, he.at_ _ _ hgd]
  rw [if_pos hw]
  refine ⟨fun _ _ => trivial, ?_⟩
  rw [Oper.semAt_eq _ _ _ (by intro cc h; cases h)]
  have hr : (execOp a.eval ⟨some d, .call { callee := .value f, args := xs.toArray, argTypes := ats }, ty, p, af, some (j0, b')⟩).run P w = .ok (.round h f' tmps as bd) w := by
    simp [execOp, resolve, he.eval hf, Deferred.ofValue, invoke, ha.eq he, hy]
  rw [hr]
  refine ⟨fun h => (by cases h), RoundIn.mono hR ?_⟩
  rintro e w' ⟨x, rfl, hst⟩
  cases o1 with
  | inl s => exact hK _ _ (k1 s x e1 out e2 _ w' (he.put _ hd hn) hst)
  | inr j => exact hK _ _ (k2 j x e1 out e2 _ w' (he.put _ hd hn) hst)
/-- The mark that the statement leaves. -/
def mark (D : Nat) : Deferred := { target := .collected D, args := #[] }
theorem cRange {S J : Type} {gop : Operand} {gf : FuncId} {cap : List Value} {ps : List Tmp} {assign body jc : Code} {L1 : S → X → List HE} {L2 : J → X → List HE} {m1 : Option (Sum S J)} {M2 : S → Option O} {M3 : J → Option O} {rv : Sum S J → X → Value}
    (hrn : c.rnd = none) (hg : Ev l gop (.func (.func gf) #[] cap.toArray)) (hok : fnOk P gf = true)
    (h : ∀ (fn : FuncId) (T : Array Value) (D h : Nat) (as bd : Code), as = assign → bd = body → Env N [] ⟨T, []⟩ l → Con P gf (.func (.yield h) #[] #[] :: cap).toArray (.obj h (rc fn T ps as bd D .ready none) :: L) m1 rv (loR fn T ps as bd D h jc L1 L2))
    (k1 : ∀ s x D, WX P N { c with D := mark D :: c.D } B ks (M2 s) .normal l (.obj D (.deferred (some [])) :: L1 s x))
    (k2 : ∀ j x D, WC P N { c with D := mark D :: c.D } B ks (M3 j) jc l (.obj D (.deferred (some [])) :: L2 j x)) :
    WC P N c B ks (m1.bind (onE M2 M3)) (.rangeFunc gop ps.toArray assign body) l L := by
  intro out hm a w he hs
  obtain ⟨o1, e1, e2⟩ := Option.bind_eq_some_iff.1 hm
  refine wpIn_rangeFunc fun fn hfn => ?_
  refine ⟨w.heap.size + 1, [mark w.heap.size], ((w.alloc (.deferred (some []))).alloc (rc fn a.tmps ps assign body w.heap.size .ready none)), { target := .fn (.func gf) cap.toArray, args := #[.func (.yield (w.heap.size + 1)) #[] #[]] }, ((w.alloc (.deferred (some []))).alloc (rc fn a.tmps ps assign body w.heap.size .ready none)), gf, #[.func (.yield (w.heap.size + 1)) #[] #[]] ++ cap.toArray, ((w.alloc (.deferred (some []))).alloc (rc fn a.tmps ps assign body w.heap.size .ready none)), ?_, ?_, fun _ _ => trivial, ?_, fun h => (by cases h), ?_⟩
  · show (Instr.enterLoop fn a.tmps ps.toArray assign body c.rnd).run P w = _
    rw [hrn]; exact run_enterLoop_outer _ _ _ _ _
  · have h1 : a.eval (.const (.func (.yield (w.heap.size + 1)) #[] #[])) = .func (.yield (w.heap.size + 1)) #[] #[] := rfl
    simp [resolve, he.eval hg, Deferred.ofValue, h1]
  · simp [invoke, run_callFunc hok]
  · have hD := (hs.alloc (.deferred (some [])) (.obj w.heap.size (.deferred (some []))) (fun R => ⟨rfl, trivial⟩))
    have hH := hD.alloc (rc fn a.tmps ps assign body w.heap.size .ready none) (.obj (w.heap.size + 1) (rc fn a.tmps ps assign body w.heap.size .ready none)) (fun R => ⟨by rw [World.size_alloc], trivial⟩)
    have hswap : St c.F c.R0 c.w0 ((w.alloc (.deferred (some []))).alloc (rc fn a.tmps ps assign body w.heap.size .ready none)) ((.obj (w.heap.size + 1) (rc fn a.tmps ps assign body w.heap.size .ready none) :: L) ++ [.obj w.heap.size (.deferred (some []))]) := by
      obtain ⟨R, h, hsat, rest⟩ := hH.ex
      refine ⟨hH.os, hH.tape, hH.output, hH.size, R, h, ?_, rest⟩
      obtain ⟨h1, h2, rfl, d, s1, h3, h4, rfl, d', s2, s3⟩ := hsat
      refine sat_append.2 ⟨h1.un h4, h3, ?_, ?_, ⟨h1, h4, rfl, (PH.dis_un'.1 d).2, s1, s3⟩, h3, PH.emp, (PH.un_emp _).symm, PH.dis_emp _, s2, rfl⟩
      · rw [PH.un_assoc, PH.un_comm d']
      · exact PH.dis_un.2 ⟨(PH.dis_un'.1 d).1, PH.dis_symm d'⟩
    obtain ⟨R, hh, hsat, hf, kk⟩ := hswap.frame
    have hcon := h fn a.tmps w.heap.size (w.heap.size + 1) assign body rfl rfl ⟨he.size, rfl, he.at_⟩ o1 e1 R hh _ hsat hf
    have hargs : (.func (.yield (w.heap.size + 1)) #[] #[] :: cap).toArray = #[.func (.yield (w.heap.size + 1)) #[] #[]] ++ cap.toArray := by simp
    rw [hargs] at hcon
    refine callsIn_of (hcon.mono ?_)
    rintro e w' ⟨x, rfl, hst⟩
    have hst' := kk w' _ hst
    have heD : Env N (mark w.heap.size :: c.D) { a with defers := mark w.heap.size :: a.defers } l := ⟨he.size, by rw [he.defers], he.at_⟩
    cases o1 with
    | inl s =>
      have hst2 : St c.F c.R0 c.w0 w' (.obj (w.heap.size + 1) (rc fn a.tmps ps assign body w.heap.size .ready none) :: (L1 s x ++ [.obj w.heap.size (.deferred (some []))])) := hst'
      have hb := obj_hp hst2 Rem.z
      have hst3 := (hst2.setObj (o' := rc fn a.tmps ps assign body w.heap.size .exhausted none) Upd.z trivial).drop
      refine ⟨_, _, run_endLoop hb (by simp), ?_⟩
      refine k1 s x w.heap.size out e2 _ _ heD ?_
      exact St.swap1 hst3
    | inr j =>
      have hst2 : St c.F c.R0 c.w0 w' (.obj (w.heap.size + 1) (rc fn a.tmps ps assign body w.heap.size .done (some jc)) :: (L2 j x ++ [.obj w.heap.size (.deferred (some []))])) := hst'
      have hb := obj_hp hst2 Rem.z
      have hst3 := (hst2.setObj (o' := rc fn a.tmps ps assign body w.heap.size .exhausted (some jc)) Upd.z trivial).drop
      refine ⟨_, _, run_endLoop hb (by simp), ?_⟩
      exact k2 j x w.heap.size out e2 _ _ heD (St.swap1 hst3)
end
end Go.Proofs.YtecipnjloenndaaDoor.SX
