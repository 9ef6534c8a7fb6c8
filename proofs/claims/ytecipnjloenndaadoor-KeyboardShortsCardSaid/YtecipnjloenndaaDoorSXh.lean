/-
Calls, returns, conversions; regions that draw their order and only read.
-/
import Derived.Test.YtecipnjloenndaaDoorSXg
set_option linter.unusedVariables false
set_option linter.unusedSimpArgs false
namespace Go.Proofs.YtecipnjloenndaaDoor.SX
open Go Go.RowKit

/-- The assertions of a list, taken out of another one; what is only read may stay. -/
inductive Pick : List HE → List HE → List HE → Prop
  | n {L} : Pick L [] L
  | c {e L L' A Lr} : Rem e L L' → Pick L' A Lr → Pick L (e :: A) Lr
  | r {α : Type} {k : Kind α} {cs : List Value} {x : α} {L L' A Lr} : Rem (.ro k cs x) L L' → Pick L A Lr → Pick L (.ro k cs x :: A) Lr
theorem Pick.sat {R : PH} {L A Lr : List HE} (p : Pick L A Lr) : ∀ {h : PH}, SX.sat R L h → SX.sat R (A ++ Lr) h := by
  induction p with
  | n => exact fun h => h
  | c r _ ih =>
    intro h hs
    obtain ⟨h1, h2, rfl, d, s, k⟩ := r.iff.1 hs
    exact ⟨h1, h2, rfl, d, s, ih k⟩
  | r r _ ih =>
    intro h hs
    obtain ⟨h1, h2, _, _, ⟨_, s⟩, _⟩ := r.iff.1 hs
    exact ⟨PH.emp, h, (PH.emp_un h).symm, PH.emp_dis h, ⟨rfl, s⟩, ih hs⟩
theorem Pick.st {F R0 : PH} {w0 w : World} {L A Lr : List HE} (p : Pick L A Lr) (hs : St F R0 w0 w L) : St F R0 w0 w (A ++ Lr) := by
  obtain ⟨R, h, hsat, rest⟩ := hs.ex
  exact ⟨hs.os, hs.tape, hs.output, hs.size, R, h, p.sat hsat, rest⟩

inductive EvL (l : List (Nat × Value)) : List Operand → List Value → Prop
  | n : EvL l [] []
  | c {x v xs vs} : Ev l x v → EvL l xs vs → EvL l (x :: xs) (v :: vs)
theorem EvL.eq {N : Nat} {D : List Deferred} {a : Act} {l : List (Nat × Value)} {xs : List Operand} {vs : List Value} (h : EvL l xs vs) (he : Env N D a l) : xs.map a.eval = vs := by
  induction h with
  | n => rfl
  | c h _ ih => simp [he.eval h, ih]
def fnOk (P : Program) (g : FuncId) : Bool := match P.funcs[g]? with
  | some fn => !(fn.name == "runtime.NumGoroutine") && fn.body.isSome
  | none => false
theorem run_callFunc {P : Program} {g : FuncId} (h : fnOk P g = true) (args : Array Value) (w : World) : (callFunc g args).run P w = .ok (.enter g args) w := by
  unfold fnOk at h
  cases hf : P.funcs[g]? with
  | none => rw [hf] at h; cases h
  | some fn =>
    rw [hf] at h
    simp only [Bool.and_eq_true, Bool.not_eq_true'] at h
    have hb : fn.body.isNone = false := by cases hh : fn.body <;> simp_all
    simp only [callFunc, Sem.run_bind, run_program, Result.andThen_ok, hf, h.1, hb, Bool.false_eq_true, if_false, Sem.run_pure]

section
variable {O O' X : Type} {P : Program} {N : Nat} {c : Cx} {B : O → Exit → Act → World → Prop} {ks : List (KI O)} {m : Option O} {l : List (Nat × Value)} {L : List HE}
  {ops : Array Oper} {rest : List Oper} {ty : TypeId} {p : String} {af : Array Edge}
/-- A contract, at a call in a state. -/
theorem Con.use {g : FuncId} {args : Array Value} {A Lr : List HE} {m1 : Option O'} {res : O' → X → Value} {Lo : O' → X → List HE} (hc : Con P g args A m1 res Lo) (pk : Pick L A Lr) {o : O'} (ho : m1 = some o) {w : World} (hs : St c.F c.R0 c.w0 w L) :
    Calls P g args w fun e w' => ∃ x, e = .returned (res o x) ∧ St c.F c.R0 c.w0 w' (Lo o x ++ Lr) := by
  have h1 := pk.st hs
  obtain ⟨R, h, hsat, hf, kk⟩ := h1.frame
  exact (hc o ho R h w hsat hf).mono fun e w' ⟨x, he, hst⟩ => ⟨x, he, kk w' _ hst⟩
theorem lCall {d : Nat} {g : FuncId} {xs : List Operand} {vs : List Value} {ats : Array TypeId} {A Lr : List HE} {m1 : Option O'} {M2 : O' → Option O} {res : O' → X → Value} {Lo : O' → X → List HE} (hg : fnOk P g = true) (ha : EvL l xs vs) (hc : Con P g vs.toArray A m1 res Lo) (pk : Pick L A Lr)
    (hd : Nat.blt d N = true) (hn : nokey d l = true) (k : ∀ o x, m1 = some o → WL P N c B ks (M2 o) ops rest ((d, res o x) :: l) (Lo o x ++ Lr)) :
    WL P N c B ks (m1.bind M2) ops (⟨some d, .call { callee := .value (.func g), args := xs.toArray, argTypes := ats }, ty, p, af, none⟩ :: rest) l L := by
  intro out hm a w he hs
  obtain ⟨o, e1, e2⟩ := Option.bind_eq_some_iff.1 hm
  refine wpListIn_plain rfl fun K hK => ?_
  have hr : (execOp a.eval ⟨some d, .call { callee := .value (.func g), args := xs.toArray, argTypes := ats }, ty, p, af, none⟩).run P w = .ok (.enter g vs.toArray) w := by
    rw [execOp_call_go, run_callFunc hg]; simp [ha.eq he]
  refine opC hr ?_
  refine (hc.use pk e1 hs).mono ?_
  rintro e w' ⟨x, rfl, hst⟩
  exact hK _ _ (k o x e1 out e2 _ w' (he.put _ hd hn) hst)
/-- Its result is not wanted. -/
theorem lCallN {d : Option Nat} {g : FuncId} {xs : List Operand} {vs : List Value} {ats : Array TypeId} {A Lr : List HE} {m1 : Option O'} {M2 : O' → Option O} {res : O' → X → Value} {Lo : O' → X → List HE} (hg : fnOk P g = true) (ha : EvL l xs vs) (hc : Con P g vs.toArray A m1 res Lo) (pk : Pick L A Lr)
    (hn : (match d with | some d => nokey d l | none => true) = true) (k : ∀ o x, m1 = some o → WL P N c B ks (M2 o) ops rest l (Lo o x ++ Lr)) :
    WL P N c B ks (m1.bind M2) ops (⟨d, .call { callee := .value (.func g), args := xs.toArray, argTypes := ats }, ty, p, af, none⟩ :: rest) l L := by
  intro out hm a w he hs
  obtain ⟨o, e1, e2⟩ := Option.bind_eq_some_iff.1 hm
  refine wpListIn_plain rfl fun K hK => ?_
  have hr : (execOp a.eval ⟨d, .call { callee := .value (.func g), args := xs.toArray, argTypes := ats }, ty, p, af, none⟩).run P w = .ok (.enter g vs.toArray) w := by
    rw [execOp_call_go, run_callFunc hg]; simp [ha.eq he]
  refine opC hr ?_
  refine (hc.use pk e1 hs).mono ?_
  rintro e w' ⟨x, rfl, hst⟩
  refine hK _ _ (k o x e1 out e2 _ w' ?_ hst)
  cases d with
  | none => exact he
  | some d => exact he.skip _ hn
theorem lCallG {d j dj : Nat} {b b' : Bool} {g : FuncId} {xs : List Operand} {vs : List Value} {ats : Array TypeId} {A Lr : List HE} {m1 : Option O'} {M2 : O' → Option O} {res : O' → X → Value} {Lo : O' → X → List HE} (hj : (ops[j]?).bind (·.dst) = some dj) (hgd : Lk l dj (.bool b')) (hb : b' = b) (hg : fnOk P g = true) (ha : EvL l xs vs) (hc : Con P g vs.toArray A m1 res Lo) (pk : Pick L A Lr)
    (hd : Nat.blt d N = true) (hn : nokey d l = true) (k : ∀ o x, m1 = some o → WL P N c B ks (M2 o) ops rest ((d, res o x) :: l) (Lo o x ++ Lr)) :
    WL P N c B ks (m1.bind M2) ops (⟨some d, .call { callee := .value (.func g), args := xs.toArray, argTypes := ats }, ty, p, af, some (j, b)⟩ :: rest) l L := by
  subst hb
  intro out hm a w he hs
  obtain ⟨o, e1, e2⟩ := Option.bind_eq_some_iff.1 hm
  refine wpListIn_step fun K hK => ?_
  have hw : Region.wanted ⟨some d, .call { callee := .value (.func g), args := xs.toArray, argTypes := ats }, ty, p, af, some (j, b')⟩ (yielded ops a.tmps) = true := by simp [Region.wanted, yielded, hj, he.at_ _ _ hgd]
  rw [if_pos hw]
  have hr : (execOp a.eval ⟨some d, .call { callee := .value (.func g), args := xs.toArray, argTypes := ats }, ty, p, af, some (j, b')⟩).run P w = .ok (.enter g vs.toArray) w := by
    rw [execOp_call_go, run_callFunc hg]; simp [ha.eq he]
  refine opC hr ?_
  refine (hc.use pk e1 hs).mono ?_
  rintro e w' ⟨x, rfl, hst⟩
  exact hK _ _ (k o x e1 out e2 _ w' (he.put _ hd hn) hst)
/-- A call of a closure, or of a function in a slot. -/
theorem lCallV {d : Nat} {f : Operand} {g : FuncId} {xs : List Operand} {vs cap : List Value} {ats : Array TypeId} {A Lr : List HE} {m1 : Option O'} {M2 : O' → Option O} {res : O' → X → Value} {Lo : O' → X → List HE} (hf : Ev l f (.func (.func g) #[] cap.toArray)) (hg : fnOk P g = true) (ha : EvL l xs vs)
    (hc : Con P g (vs ++ cap).toArray A m1 res Lo) (pk : Pick L A Lr) (hd : Nat.blt d N = true) (hn : nokey d l = true) (k : ∀ o x, m1 = some o → WL P N c B ks (M2 o) ops rest ((d, res o x) :: l) (Lo o x ++ Lr)) :
    WL P N c B ks (m1.bind M2) ops (⟨some d, .call { callee := .value f, args := xs.toArray, argTypes := ats }, ty, p, af, none⟩ :: rest) l L := by
  intro out hm a w he hs
  obtain ⟨o, e1, e2⟩ := Option.bind_eq_some_iff.1 hm
  refine wpListIn_plain rfl fun K hK => ?_
  have hr : (execOp a.eval ⟨some d, .call { callee := .value f, args := xs.toArray, argTypes := ats }, ty, p, af, none⟩).run P w = .ok (.enter g (vs ++ cap).toArray) w := by
    simp [execOp, resolve, he.eval hf, Deferred.ofValue, invoke, run_callFunc hg, ha.eq he]
  refine opC hr ?_
  refine (hc.use pk e1 hs).mono ?_
  rintro e w' ⟨x, rfl, hst⟩
  exact hK _ _ (k o x e1 out e2 _ w' (he.put _ hd hn) hst)

/-! ### The model's binds -/
theorem lIx {α : Type} {xs : List α} {i : Int} {M2 : α → Option O} (k : ∀ y, 0 ≤ i → xs[i.toNat]? = some y → WL P N c B ks (M2 y) ops rest l L) : WL P N c B ks ((ix xs i).bind M2) ops rest l L := by
  intro out hm
  obtain ⟨y, e1, e2⟩ := Option.bind_eq_some_iff.1 hm
  obtain ⟨h1, h2, _⟩ := ix_some e1
  exact k y h1 h2 out e2
theorem lBind {β : Type} {m1 : Option β} {M2 : β → Option O} (k : ∀ y, m1 = some y → WL P N c B ks (M2 y) ops rest l L) : WL P N c B ks (m1.bind M2) ops rest l L := by
  intro out hm
  obtain ⟨y, e1, e2⟩ := Option.bind_eq_some_iff.1 hm
  exact k y e1 out e2
theorem cBind {β : Type} {x : Code} {m1 : Option β} {M2 : β → Option O} (k : ∀ y, m1 = some y → WC P N c B ks (M2 y) x l L) : WC P N c B ks (m1.bind M2) x l L := by
  intro out hm
  obtain ⟨y, e1, e2⟩ := Option.bind_eq_some_iff.1 hm
  exact k y e1 out e2

/-! ### Returns -/
inductive EvR (P : Program) (l : List (Nat × Value)) (L : List HE) : List ResultVar → List Value → Prop
  | n : EvR P l L [] []
  | t {t v rs vs} : Lk l t v → EvR P l L rs vs → EvR P l L (.tmp t :: rs) (v :: vs)
  | a {t ty b cs tb L' rs vs} : Lk l t (.pointer (some ⟨b, 0, none⟩)) → Rem (.blk b cs tb) L L' → aggT P ty = some true → sizeT P ty = some cs.length → EvR P l L rs vs → EvR P l L (.cell t ty :: rs) (.agg cs.toArray :: vs)
  | s {t ty b v tb L' rs vs} : Lk l t (.pointer (some ⟨b, 0, none⟩)) → Rem (.blk b [v] tb) L L' → aggT P ty = some false → EvR P l L rs vs → EvR P l L (.cell t ty :: rs) (v :: vs)
def mkRes : List Value → Value
  | [v] => v
  | vs => .tuple vs.toArray
def rdRes (tmps : Array Value) : ResultVar → Sem Value
  | .tmp q => pure (tmps.getD q undef)
  | .cell p q => do loadVar q (← asAddr (tmps.getD p undef))
theorem run_rdRes {rs : List ResultVar} {vs : List Value} (h : EvR P l L rs vs) {a : Act} {w : World} (he : Env N c.D a l) (hs : St c.F c.R0 c.w0 w L) : (rs.mapM (rdRes a.tmps)).run P w = .ok vs w := by
  induction h with
  | n => rfl
  | t k _ ih =>
    have := he.at_ _ _ k
    simp only [List.mapM_cons, Sem.run_bind, Result.andThen_ok, ih, rdRes, Sem.run_pure]
    simp [this]
  | @a t ty b cs tb L' rs vs k r hag hsz _ ih =>
    have h1 := he.at_ _ _ k
    have hb := blk_hp hs r
    have h2 := run_loadVar_agg (P := P) (w := w) (b := b) (o := 0) hag hsz rfl (fun j u hj => by rw [cell_hp hb]; simpa using hj)
    have h3 : a.tmps.getD t undef = .pointer (some ⟨b, 0, none⟩) := by simp [h1]
    simp only [List.mapM_cons, Sem.run_bind, Result.andThen_ok, ih, rdRes, h3, asAddr, Sem.run_pure, h2]
  | @s t ty b v tb L' rs vs k r hag _ ih =>
    have h1 := he.at_ _ _ k
    have hb := blk_hp hs r
    have h2 := run_loadVar_one (P := P) (w := w) (a := ⟨b, 0, none⟩) (u := v) hag (by rw [cell_hp hb]; simp)
    have h3 : a.tmps.getD t undef = .pointer (some ⟨b, 0, none⟩) := by simp [h1]
    simp only [List.mapM_cons, Sem.run_bind, Result.andThen_ok, ih, rdRes, h3, asAddr, Sem.run_pure, h2]
theorem results_run {fn : Func} {rs : List ResultVar} {vs : List Value} (hr : fn.results = rs.toArray) (h : EvR P l L rs vs) {a : Act} {w : World} (he : Env N c.D a l) (hs : St c.F c.R0 c.w0 w L) : (results fn a.tmps).run P w = .ok (mkRes vs) w := by
  have h1 := run_rdRes h he hs
  have h2 : (fn.results.mapM (rdRes a.tmps)).run P w = .ok vs.toArray w := by
    rw [hr, Array.mapM_eq_mapM_toList]
    simp only [Sem.run_map, h1, Result.andThen_ok]
  have h0 : results fn a.tmps = (fn.results.mapM (rdRes a.tmps) >>= fun vs => pure (if h : vs.size = 1 then vs[0] else .tuple vs)) := rfl
  rw [h0, Sem.run_bind, h2]
  simp only [Result.andThen_ok, Sem.run_pure]
  cases vs with
  | nil => rfl
  | cons v vs => cases vs <;> rfl
/-- The activation leaves: its deferred calls are done. -/
def LV {X : Type} (P : Program) (N : Nat) (fn : Func) (c : Cx) (res : O → X → Ending) (Lo : O → X → List HE) (o : O) (ds : List Deferred) (u : FrameMode) (l : List (Nat × Value)) (L : List HE) : Prop :=
  ∀ a w, Env N c.D a l → St c.F c.R0 c.w0 w L → LeavesInM (fence none) 2 P fn a.tmps (fun en w' => ∃ x, en = res o x ∧ St c.F c.R0 c.w0 w' (Lo o x)) ds u w
theorem lvRet {fn : Func} {rs : List ResultVar} {vs : List Value} {res : O → X → Ending} {Lo : O → X → List HE} {o : O} (hr : fn.results = rs.toArray) (h : EvR P l L rs vs) (x : X) (hv : res o x = .returned (mkRes vs)) (r : Sub L (Lo o x)) :
    LV P N fn c res Lo o [] .returning l L := fun a w he hs => ⟨_, results_run hr h he hs, x, hv.symm, r.st hs⟩
theorem lvPan {fn : Func} {ch : List PanicEntry} {res : O → X → Ending} {Lo : O → X → List HE} {o : O} (x : X) (hv : res o x = .panicked ch) (r : Sub L (Lo o x)) :
    LV P N fn c res Lo o [] (.panicking ch) l L := fun a w he hs => ⟨x, hv.symm, r.st hs⟩
theorem rLeave {fn : Func} {ds : List Deferred} {res : O → X → Ending} {Lo : O → X → List HE} {o : O} (hD : c.D = ds) (h : LV P N fn c res Lo o ds .returning l L) :
    ∀ out, some o = some out → ∀ a w, Env N c.D a l → St c.F c.R0 c.w0 w L → BFE P fn c res Lo out .ret a w := by
  intro out ho a w he hs
  cases ho
  refine ⟨.inl rfl, ?_⟩
  show LeavesInM _ _ _ _ _ _ a.defers _ _
  rw [he.defers, hD]
  exact h a w he hs
theorem xLeave {fn : Func} {ds : List Deferred} {res : O → X → Ending} {Lo : O → X → List HE} {o : O} (hD : c.D = ds) (h : LV P N fn c res Lo o ds .returning l L) : WX P N c (BFE P fn c res Lo) [] (some o) .normal l L := by
  intro out ho a w he hs
  cases ho
  refine ⟨.inr (.inl rfl), ?_⟩
  show LeavesInM _ _ _ _ _ _ a.defers _ _
  rw [he.defers, hD]
  exact h a w he hs
theorem pLeave {fn : Func} {ds : List Deferred} {ch : List PanicEntry} {res : O → X → Ending} {Lo : O → X → List HE} {o : O} (hD : c.D = ds) (h : LV P N fn c res Lo o ds (.panicking ch) l L) :
    ∀ out, some o = some out → ∀ a w, Env N c.D a l → St c.F c.R0 c.w0 w L → BFE P fn c res Lo out (.panic ch) a w := by
  intro out ho a w he hs
  cases ho
  refine ⟨.inr (.inr ⟨_, rfl⟩), ?_⟩
  show LeavesInM _ _ _ _ _ _ a.defers _ _
  rw [he.defers, hD]
  exact h a w he hs
theorem rDone {fn : Func} {rs : List ResultVar} {vs : List Value} {res : O → X → Ending} {Lo : O → X → List HE} {o : O} (hr : fn.results = rs.toArray) (h : EvR P l L rs vs) (hD : c.D = []) (x : X) (hv : res o x = .returned (mkRes vs)) (r : Sub L (Lo o x)) :
    ∀ out, some o = some out → ∀ a w, Env N c.D a l → St c.F c.R0 c.w0 w L → BFE P fn c res Lo out .ret a w := rLeave hD (lvRet hr h x hv r)
theorem xDone {fn : Func} {rs : List ResultVar} {vs : List Value} {res : O → X → Ending} {Lo : O → X → List HE} {o : O} (hr : fn.results = rs.toArray) (h : EvR P l L rs vs) (hD : c.D = []) (x : X) (hv : res o x = .returned (mkRes vs)) (r : Sub L (Lo o x)) :
    WX P N c (BFE P fn c res Lo) [] (some o) .normal l L := xLeave hD (lvRet hr h x hv r)
/-- Out of a loop. -/
theorem rInner {S X' : Type} {lJ : S → X' → List (Nat × Value)} {LJ : S → X' → List HE} {e' : Exit} {o : O} (h : ∀ out, some o = some out → ∀ a w, Env N c.D a l → St c.F c.R0 c.w0 w L → B out .ret a w) :
    ∀ out, some (Sum.inr o) = some out → ∀ a w, Env N c.D a l → St c.F c.R0 c.w0 w L → BJR N c B lJ LJ e' out .ret a w := by
  intro out ho a w he hs
  cases ho
  exact ⟨.inl rfl, h o rfl a w he hs⟩
end

/-! ### Conversions, make -/
section
theorem oneRo {α : Type} {c : Cx} {L L' : List HE} {k : Kind α} {v : Value} {x : α} (r : Rem (.ro k [v] x) L L') : ∀ w, St c.F c.R0 c.w0 w L → v.oneCell' = true := fun w hs => by
  obtain ⟨R, h, hsat, _⟩ := hs.ex
  exact k.one (roAt r hsat) v (by simp)
theorem oneOwn {α : Type} {c : Cx} {L L' : List HE} {k : Kind α} {t : TypeId} {v : Value} {xs : List α} (r : Rem (.own v t k xs) L L') : ∀ w, St c.F c.R0 c.w0 w L → v.oneCell' = true := fun w hs => by
  obtain ⟨A, cap, rfl, _⟩ := ownShape (hs.rem r)
  rfl
end
section
variable {P : Program} {N : Nat} {c : Cx} {l : List (Nat × Value)} {L : List HE}
theorem rows_kB_eq {R : PH} {css : List (List Value)} {xs : List UInt8} (h : All2 (kB.rd R) css xs) : css = xs.map fun x => [vB x] := by
  induction h with
  | nil => rfl
  | cons h _ ih =>
    have h' : _ = [vB _] := h
    rw [h', ih]; rfl
theorem dBytesStr {s t e : TypeId} {x : Operand} {v : Value} {xs : List UInt8} (hs : P.underlying s = some (.slice e)) (he' : P.underlying e = some (.int .u8)) (ht : P.underlying t = some .string) (hx : Ev l x v) (hsl : SlE c L v kB xs) : Rd P N c (.convert s t x) l L (vS xs) := fun o a w ho he hst => by
  obtain ⟨R, A, cap, rfl, h1, h2, h3⟩ := hsl w hst
  have hr : (convert s t (.slice A xs.length cap)).run P w = .ok (vS xs) w := by
    rcases h3 with rfl | ⟨b, off, css, cells, tt, fr, rfl, a1, a2, a3⟩
    · cases A with
      | none => exact run_convert_bytes_nil w s e hs he' _ _ t ht
      | some a =>
        simp only [convert, Sem.run_bind, run_und hs, run_und ht, Result.andThen_ok, run_und he']
        simp [Conv.bytesToString, loadCells, loadCellsFrom]; rfl
    · have hcss := rows_kB_eq a1
      have := run_convert_bytes_arg w s e hs he' b off xs.length cap (xs.map fun x => (x.toNat : Int)) (by simp) (fun i hi => by
        rw [cell_hp a2]
        refine a3 i _ ?_
        rw [hcss, ← flat_vB]
        simp [hi, List.getD]
        rfl) t ht
      rw [this]
      congr 2
      simp only [strOfNums, List.map_map]
      congr 2
      conv => rhs; rw [← List.map_id xs]
      apply List.map_congr_left
      intro y _
      simp
  simp [execOp, ho, he.eval hx, hr]
theorem cStrBytes {s t e : TypeId} {x : Operand} {xs : List UInt8} (hs : P.underlying s = some .string) (ht : P.underlying t = some (.slice e)) (he' : P.underlying e = some (.int .u8)) (hlen : xs.length ≤ 9223372036854775807) (hx : Ev l x (vS xs)) :
    Ch P N c (.convert s t x) l L (fun v => v) (fun v => .own v e kB xs :: L) := fun o a w ho he hst => by
  have hsz : (⟨xs.toArray⟩ : ByteArray).size = xs.length := by simp [ByteArray.size]
  have hgc := grownCap_ge w xs.length 0 e
  have hgm := grownCap_le_maxLen w xs.length 0 e (by unfold maxLen; omega)
  have hcells : (xs.map vB).toArray ++ Array.replicate (grownCap w xs.length 0 e - xs.length) (Value.int .u8 0) = ((xs.map fun x => [vB x]).flatten ++ List.replicate (grownCap w xs.length 0 e - xs.length) (Value.int .u8 0)).toArray := by
    rw [← flat_vB]; apply Array.ext'; simp
  let cells : Array Value := (xs.map vB).toArray ++ Array.replicate (grownCap w xs.length 0 e - xs.length) (Value.int .u8 0)
  have hsize : cells.size = grownCap w xs.length 0 e := by simp [cells]; omega
  refine ⟨.slice (some ⟨w.heap.size, 0, none⟩) xs.length (grownCap w xs.length 0 e), (w.drew.alloc (.cells cells e)).freeze ⟨w.heap.size, cells.size, none⟩ 1, ?_, ?_⟩
  · have hch : (choose (.appendCap xs.length 0 e)).run P w = .ok (grownCap w xs.length 0 e) w.drew := by simp [Question.forced, grownCap]
    have hmap : (xs.toArray.map fun b => Value.int .u8 (b.toNat : Int)) = (xs.map vB).toArray := by simp; exact fun _ _ => rfl
    have hshape : (w.drew.alloc (.cells cells e)).shape? w.heap.size = some (e, cells.size) := by
      have : (w.drew.alloc (.cells cells e)).heap[w.heap.size]? = some (.cells cells e) := by
        show (w.heap.push _)[w.heap.size]? = _
        simp
      simp only [World.shape?, this]
    simp only [execOp, ho, he.eval hx, vS, convert, Sem.run_bind, run_und hs, run_und ht, Result.andThen_ok, run_und he', Conv.stringToBytes, hsz, hch, hmap]
    have hnr : (newRow e ((xs.map vB).toArray ++ Array.replicate (grownCap w xs.length 0 e - xs.length) (Value.int .u8 0))).run P w.drew = .ok ⟨w.heap.size, 0, none⟩ (w.drew.alloc (.cells cells e)) := run_newRow e _
    simp only [hnr, Result.andThen_ok, markStringish, Sem.run_bind, run_shape, hshape, run_freeze, Sem.run_pure]
  · have hb : hp (w.drew.alloc (.cells cells e)) w.heap.size = some (.cells cells e) := by
      show (w.heap.push _)[w.heap.size]? = _
      simp
    have hfz : ∀ i, hp ((w.drew.alloc (.cells cells e)).freeze ⟨w.heap.size, cells.size, none⟩ 1) i = if i = w.heap.size then some (.cells cells e (cells.size, cells.size + 1)) else hp (w.drew.alloc (.cells cells e)) i := fun i => by
      have hb' : (w.drew.alloc (.cells cells e)).heap[w.heap.size]? = some (.cells cells e) := hb
      have hfd : ((w.drew.alloc (.cells cells e)).freeze ⟨w.heap.size, cells.size, none⟩ 1).heap = (w.drew.alloc (.cells cells e)).heap.modify w.heap.size (fun
          | .cells c elem (lo, hi) => .cells c elem (if lo == hi then (cells.size, cells.size + 1) else (min lo cells.size, max hi (cells.size + 1)))
          | o => o) := rfl
      simp only [hp, hfd, Array.getElem?_modify]
      by_cases hi : i = w.heap.size
      · subst hi; rw [if_pos rfl, if_pos rfl, hb']; rfl
      · rw [if_neg (fun e => hi e.symm), if_neg hi]
    have hs1 := (hst.draw 1).blk cells.toList e
    have hs2 : St c.F c.R0 c.w0 (w.drew.alloc (.cells cells e)) (.blk w.heap.size cells.toList e :: L) := by rw [Array.toArray_toList] at hs1; exact hs1
    refine hs2.modify fun R h hsem hf => ?_
    have hsem' : h = PH.one w.heap.size (.cells cells.toList.toArray e (0, 0)) := hsem
    subst hsem'
    refine ⟨w.heap.size, .cells cells e (cells.size, cells.size + 1), fun i hi => PH.one_other _ hi, by rw [PH.one_same]; simp, .inr ⟨w.heap.size, [], xs.map fun x => [vB x], List.replicate (grownCap w xs.length 0 e - xs.length) (Value.int .u8 0), grownCap w xs.length 0 e, (cells.size, cells.size + 1), rfl, rows_kB R xs, hgc, hgm, by simp [kB, Kind.flat], ?_, ?_⟩, by simp [World.freeze], by rw [hfz, if_pos rfl], fun i hi => by rw [hfz, if_neg hi], by simp [World.freeze], by simp [World.freeze], by simp [World.freeze]⟩
    · intro j hj hh
      have : ([] ++ ((xs.map fun x => [vB x]).flatten ++ List.replicate (grownCap w xs.length 0 e - xs.length) (Value.int .u8 0))).length = cells.size := by
        rw [List.nil_append, hsize, List.length_append, ← flat_vB]; simp; omega
      omega
    · rw [List.nil_append, ← hcells]
/-- make, without more room than asked for. -/
def mk {α : Type} (n : Int) (z : α) : Option (List α) := if 0 ≤ n ∧ n ≤ (capGuard : Int) then some (List.replicate n.toNat z) else none
theorem cMake {α : Type} {k : Kind α} {t e : TypeId} {x y : Operand} {q q' : IntKind} {n : Int} {z : Value} {zx : α} {nb : Nat} {zs : List α} (ht : P.underlying t = some (.slice e)) (hi : elemInfo P e = some (k.n, nb, k.n)) (hnb : Nat.ble nb 2048 = true) (hk : 0 < k.n) (hz : zeroT P e = some z) (hzx : ∀ R, k.rd R z.cells.toList zx)
    (hx : Ev l x (.int q n)) (hy : Ev l y (.int q' n)) (hm : mk n zx = some zs) : Ch P N c (.makeSlice t x y) l L (fun b => .slice (some ⟨b, 0, none⟩) n.toNat n.toNat) (fun b => .own (.slice (some ⟨b, 0, none⟩) n.toNat n.toNat) e k zs :: L) := fun o a w ho he hst => by
  unfold mk at hm
  split at hm
  case isFalse => cases hm
  rename_i hn
  cases hm
  obtain ⟨i, hinf, hi'⟩ := Option.bind_eq_some_iff.1 hi
  obtain ⟨z', hiz, hi''⟩ := Option.map_eq_some_iff.1 hi'
  simp only [Prod.mk.injEq] at hi''
  obtain ⟨e1, e2, e3⟩ := hi''
  have hzz : z' = z := by
    unfold zeroT at hz; rw [hinf] at hz; simp [hiz] at hz; exact hz
  subst hzz
  have hnb' : nb ≤ 2048 := Nat.le_of_ble_eq_true hnb
  have hn2 : n ≤ 68719476736 := hn.2
  have hw : IntKind.i64.wrap n = n := w64_of (by omega) (by omega)
  have hbn : (i.bytes : Int) * n ≤ 2 ^ 48 := by
    have h1 : (i.bytes : Int) ≤ 2048 := by omega
    have h2 : (i.bytes : Int) * n ≤ 2048 * 68719476736 := Int.mul_le_mul h1 hn2 hn.1 (by decide)
    omega
  have hcss : ∀ R h, sat R L h → All2 (k.rd R) (List.replicate n.toNat z'.cells.toList) (List.replicate n.toNat zx) := fun R h _ => by
    generalize n.toNat = q
    induction q with
    | zero => exact .nil
    | succ q ih => exact .cons (hzx R) ih
  have hflat : ((Array.range (n.toNat * i.size)).map (z'.cells[· % z'.cells.size]!)) = ((List.replicate n.toNat z'.cells.toList).flatten ++ []).toArray := by
    rw [e1, ← e3]
    apply Array.ext'
    simp only [Array.toList_map, Array.toList_range, List.append_nil]
    have hpos : 0 < z'.cells.size := by rw [e3]; exact hk
    generalize n.toNat = q
    apply List.ext_getElem?
    intro j
    rcases Nat.lt_or_ge j (q * z'.cells.size) with hj | hj
    · rw [List.getElem?_map, List.getElem?_range hj]
      have hdiv : j / z'.cells.size < q := Nat.div_lt_of_lt_mul (by rw [Nat.mul_comm]; exact hj)
      have hmod := Nat.mod_lt j hpos
      have := flatten_get (css := List.replicate q z'.cells.toList) (n := z'.cells.size) (fun cs hc => by rw [List.eq_of_mem_replicate hc]; simp) (i := j / z'.cells.size) (cs := z'.cells.toList) (o := j % z'.cells.size) (u := z'.cells[j % z'.cells.size]) (by simp [hdiv]) (by simp [hmod])
      rw [Nat.div_add_mod' j z'.cells.size] at this
      rw [this]
      simp [hmod]
    · rw [List.getElem?_eq_none (by simpa using hj), List.getElem?_eq_none]
      rw [len_flatten (n := z'.cells.size) (fun cs hc => by rw [List.eq_of_mem_replicate hc]; simp)]
      simpa using hj
  have hown := hst.newOwn (t := e) (css := List.replicate n.toNat z'.cells.toList) (post := []) (cap := n.toNat) hcss (by simp) (by unfold maxLen; omega) (by simp) hflat
  rw [List.length_replicate] at hown
  refine ⟨w.heap.size, _, ?_, hown⟩
  have hti : ∀ w, (typeInfo e).run P w = .ok i w := fun w => by simp [typeInfo, hinf]
  have hszr : ∀ w, (sizeOf e).run P w = .ok i.size w := fun w => by simp [sizeOf, typeInfo, hinf]
  simp only [execOp, ho, he.eval hx, he.eval hy, Instr.makeSlice, Sem.run_bind, run_und ht, Result.andThen_ok, asInt, asIntOf, Sem.run_pure, hti, hw, run_askRoom, hszr]
  rw [if_neg (by simp; omega)]
  simp only [Sem.run_bind, Sem.run_pure, Result.andThen_ok, run_askRoom, hszr, run_zero hz]
  by_cases h0 : n.toNat * i.size = 0
  · rw [if_pos h0]
    simp only [Sem.run_bind, Sem.run_pure, Result.andThen_ok, run_newRow]
    have hr0 : ∀ f g : Nat → Value, (Array.range (n.toNat * i.size)).map f = (Array.range (n.toNat * i.size)).map g := fun f g => by
      rw [h0]; apply Array.ext'; simp
    rw [hr0 _ (z'.cells[· % z'.cells.size]!)]
  · rw [if_neg h0]
    simp only [Sem.run_bind, Sem.run_pure, Result.andThen_ok, run_newRow, run_zero hz]
end
end Go.Proofs.YtecipnjloenndaaDoor.SX
