/-
Regions that draw their order, and change what is held: quiet operations are taken as soon as they may come, the others come one behind the other.
-/
import Derived.Test.YtecipnjloenndaaDoorSXh
import Derived.Orders
set_option linter.unusedVariables false
set_option linter.unusedSimpArgs false
namespace Go.Proofs.YtecipnjloenndaaDoor.SX
open Go Go.RowKit

def SC (c : Cx) (w : World) (L : List HE) : Prop := St c.F c.R0 c.w0 w L
def eUpon (P : Program) (PQ : List PanicEntry → World → Prop) (K : Value → World → Prop) : Result Next → Prop
  | .ok (.value u) w' => K u w'
  | .ok .skip w' => K undef w'
  | .ok (.enter f args) w' => Calls P f args w' (fun e w'' => (∃ u, e = .returned u ∧ K u w'') ∨ ∃ ch, e = .panicked ch ∧ PQ ch w'')
  | .ok (.round l f tmps assign body) w' => RoundIn (fence none) 1 P l f tmps assign body w' (fun e w'' => (∃ u, e = .returned u ∧ K u w'') ∨ ∃ ch, e = .panicked ch ∧ PQ ch w'')
  | _ => False
def noP : List PanicEntry → World → Prop := fun _ _ => False
theorem eUpon_mono {P : Program} {PQ PQ' : List PanicEntry → World → Prop} {K K' : Value → World → Prop} (hp : ∀ ch w, PQ ch w → PQ' ch w) (h : ∀ u w, K u w → K' u w) {r : Result Next} (hh : eUpon P PQ K r) : eUpon P PQ' K' r := by
  cases r with
  | ok n w =>
    cases n <;> simp only [eUpon] at hh ⊢
    case value => exact h _ _ hh
    case skip => exact h _ _ hh
    case enter => exact hh.mono fun e w' k => k.imp (fun ⟨u, he, hk⟩ => ⟨u, he, h _ _ hk⟩) (fun ⟨ch, he, hk⟩ => ⟨ch, he, hp _ _ hk⟩)
    case round => exact hh.mono fun e w' k => k.imp (fun ⟨u, he, hk⟩ => ⟨u, he, h _ _ hk⟩) (fun ⟨ch, he, hk⟩ => ⟨ch, he, hp _ _ hk⟩)
  | halt x w => cases hh
/-- A call's end, where it does not panic. -/
theorem eUpon_ret {P : Program} {PQ : List PanicEntry → World → Prop} {K : Value → World → Prop} {f : FuncId} {args : Array Value} {w : World} (h : Calls P f args w (fun e w' => ∃ u, e = .returned u ∧ K u w')) : eUpon P PQ K (.ok (.enter f args) w) := h.mono fun _ _ k => .inl k
def eOp (P : Program) (PQ : List PanicEntry → World → Prop) (ops : Array Oper) (i : Nat) (K : Act → World → Prop) (a : Act) (w : World) : Prop :=
  match ops[i]? with
  | none => K a w
  | some o => if Region.wanted o (yielded ops a.tmps) then eUpon P PQ (fun u w' => K (a.put o.dst u) w') ((execOp a.eval o).run P w) else K (a.put o.dst undef) w
section
variable {P : Program} {PQ : List PanicEntry → World → Prop} {ops : Array Oper} {Lq : List HE}
theorem eOp_mono {i : Nat} {a : Act} {w : World} {K K' : Act → World → Prop} (h : ∀ a w, K a w → K' a w) (hh : eOp P PQ ops i K a w) : eOp P PQ ops i K' a w := by
  unfold eOp at *
  split
  · rename_i ho; simp only [ho] at hh; exact h _ _ hh
  · rename_i o ho
    simp only [ho] at hh
    split
    · rename_i hw; simp only [hw, if_true] at hh; exact eUpon_mono (fun _ _ => id) (fun _ _ => h _ _) hh
    · rename_i hw; simp only [hw] at hh; exact h _ _ hh
theorem put_defers (a : Act) (d : Option Tmp) (u : Value) : (a.put d u).defers = a.defers := by cases d <;> rfl
theorem eOp_wp {r : Option Nat} {Q : Exit → Act → World → Prop} {i : Nat} {a : Act} {w : World} {K : Act → World → Prop} (hp : ∀ ch w, PQ ch w → Q (.panic ch) a w) (hh : eOp P PQ ops i (fun a' w' => a'.defers = a.defers → K a' w') a w) : wpOpIn (fence r) 2 P ops Q i K a w := by
  unfold eOp at hh
  unfold wpOpIn
  split
  · rename_i ho; simp only [ho] at hh; exact hh trivial
  · rename_i o ho
    simp only [ho] at hh
    split
    · rename_i hw
      simp only [hw, if_true] at hh
      refine ⟨fun _ _ => trivial, ?_⟩
      cases hr : (execOp a.eval o).run P w with
      | ok n w' =>
        rw [hr] at hh
        have hs : o.semAt (fence r).round a.eval = execOp a.eval o := semAt_of hr fun d e => by subst e; exact hh
        rw [hs, hr]
        cases n <;> simp only [eUpon] at hh <;> simp only [Oper.uponIn]
        case value => exact hh (put_defers ..)
        case skip => exact hh (put_defers ..)
        case enter =>
          refine ⟨fun h => (by cases h), callsIn_of (hh.mono fun e w' k => ?_)⟩
          rcases k with ⟨u, rfl, hk⟩ | ⟨ch, rfl, hk⟩
          · exact hk (put_defers ..)
          · exact hp _ _ hk
        case round =>
          refine ⟨fun h => (by cases h), ?_⟩
          refine RoundIn.mono (show RoundIn (fence none) 1 P _ _ _ _ _ _ _ from hh) fun e w' k => ?_
          rcases k with ⟨u, rfl, hk⟩ | ⟨ch, rfl, hk⟩
          · exact hk (put_defers ..)
          · exact hp _ _ hk
      | halt x w' => rw [hr] at hh; cases hh
    · rename_i hw; simp only [hw] at hh; exact ⟨fun _ _ => trivial, hh (put_defers ..)⟩
def anyL (E : List Nat) (listed : Array Bool) : Bool := E.any fun i => listed.getD i false
def LQ (E : List Nat) (L0 L1 : List HE) (listed : Array Bool) : List HE := if anyL E listed then L1 else L0
theorem getD_set_eq {listed : Array Bool} {i j : Nat} (h : i ≠ j) : (listed.setIfInBounds i true).getD j false = listed.getD j false := getD_set_ne false h
theorem anyL_set {E : List Nat} {listed : Array Bool} {i : Nat} (h : i ∉ E) : anyL E (listed.setIfInBounds i true) = anyL E listed := by
  unfold anyL
  induction E with
  | nil => rfl
  | cons j E ih =>
    simp only [List.any_cons]
    rw [ih fun hm => h (List.mem_cons_of_mem _ hm), getD_set_eq (i := i) (j := j) fun e => h (by rw [e]; exact List.mem_cons_self)]
theorem LQ_set {E : List Nat} {L0 L1 : List HE} {listed : Array Bool} {i : Nat} (h : i ∉ E) : LQ E L0 L1 (listed.setIfInBounds i true) = LQ E L0 L1 listed := by unfold LQ; rw [anyL_set h]
theorem anyL_true {E : List Nat} {listed : Array Bool} {i : Nat} (h : i ∈ E) (hi : i < listed.size) : anyL E (listed.setIfInBounds i true) = true := by
  unfold anyL
  refine List.any_eq_true.2 ⟨i, h, ?_⟩
  simp [hi]
def closedL (ops : Array Oper) (listed : Array Bool) : Prop := listed.size = ops.size ∧ ∀ j oj, ops[j]? = some oj → listed.getD j false = true → ∀ e ∈ oj.after, Region.binds .any e = true → listed.getD e.on false = true
theorem closedL.set {ops : Array Oper} {listed : Array Bool} {i : Nat} (h : closedL ops listed) (hi : i ∈ Region.ready .any ops listed) : closedL ops (listed.setIfInBounds i true) := by
  obtain ⟨_, oi, hoi, hall⟩ := mem_ready.1 hi
  refine ⟨by simp [h.1], fun j oj hj hl e he hb => ?_⟩
  by_cases hij : i = j
  · subst hij
    have : oj = oi := Option.some.inj (hj.symm.trans hoi)
    subst this
    exact getD_set_true (hall e he hb)
  · rw [getD_set_ne false hij] at hl
    exact getD_set_true (h.2 j oj hj hl e he hb)
/-- Does j wait for i, by whatever way? -/
def waitsT (ops : Array Oper) : Nat → Nat → Nat → Bool
  | 0, _, _ => false
  | f + 1, j, i => match ops[j]? with
    | some oj => oj.after.any fun e => Region.binds .any e && (Nat.beq e.on i || waitsT ops f e.on i)
    | none => false
theorem waitsT_listed {ops : Array Oper} {listed : Array Bool} (h : closedL ops listed) : ∀ (f j i : Nat), waitsT ops f j i = true → listed.getD j false = true → listed.getD i false = true := by
  intro f
  induction f with
  | zero => intro j i hw; cases hw
  | succ f ih =>
    intro j i hw hl
    unfold waitsT at hw
    split at hw
    · rename_i oj hj
      obtain ⟨e, he, hb⟩ := Array.any_eq_true'.1 hw
      simp only [Bool.and_eq_true, Bool.or_eq_true, Nat.beq_eq] at hb
      have h1 := h.2 j oj hj hl e he hb.1
      rcases hb.2 with rfl | hb2
      · exact h1
      · exact ih _ _ hb2 h1
    · cases hw
theorem waitsT_ready {ops : Array Oper} {listed : Array Bool} (h : closedL ops listed) {f j i : Nat} (hw : waitsT ops f j i = true) (hr : j ∈ Region.ready .any ops listed) : listed.getD i false = true := by
  obtain ⟨_, oj, hoj, hall⟩ := mem_ready.1 hr
  cases f with
  | zero => cases hw
  | succ f =>
    simp only [waitsT, hoj] at hw
    obtain ⟨e, he, hb⟩ := Array.any_eq_true'.1 hw
    simp only [Bool.and_eq_true, Bool.or_eq_true, Nat.beq_eq] at hb
    have h1 := hall e he hb.1
    rcases hb.2 with rfl | hb2
    · exact h1
    · exact waitsT_listed h _ _ _ hb2 h1
def wT (P : Program) (PQ : List PanicEntry → World → Prop) (ops : Array Oper) (Q : Act → World → Prop) (E : List Nat) (L0 L1 : List HE) : Nat → Array Bool → Act → Cx → Prop
  | 0, listed, a, c => Region.ready .any ops listed = [] ∧ ∀ w, SC c w (LQ E L0 L1 listed) → Q a w
  | f + 1, listed, a, c => (Region.ready .any ops listed = [] → ∀ w, SC c w (LQ E L0 L1 listed) → Q a w) ∧ ∀ i ∈ Region.ready .any ops listed, ∀ w, SC c w (LQ E L0 L1 listed) → eOp P PQ ops i (fun a' w' => ∃ c' : Cx, SC c' w' (LQ E L0 L1 (listed.setIfInBounds i true)) ∧ wT P PQ ops Q E L0 L1 f (listed.setIfInBounds i true) a' c') a w
theorem eOp_defers {i : Nat} {a : Act} {w : World} {K : Act → World → Prop} (hh : eOp P PQ ops i K a w) : eOp P PQ ops i (fun a' w' => a'.defers = a.defers ∧ K a' w') a w := by
  unfold eOp at *
  split
  · rename_i ho; simp only [ho] at hh; exact ⟨rfl, hh⟩
  · rename_i o ho
    simp only [ho] at hh
    split
    · rename_i hw; simp only [hw, if_true] at hh; exact eUpon_mono (fun _ _ => id) (fun _ _ h => ⟨put_defers .., h⟩) hh
    · rename_i hw; simp only [hw] at hh; exact ⟨put_defers .., hh⟩
theorem wpAny_of_wT {E : List Nat} {L0 L1 : List HE} {r : Option Nat} {D : List Deferred} {Q : Exit → Act → World → Prop} (hp : ∀ ch a w, a.defers = D → PQ ch w → Q (.panic ch) a w) : ∀ (f : Nat) (listed : Array Bool) (a : Act) (c : Cx) (w : World), a.defers = D → SC c w (LQ E L0 L1 listed) → wT P PQ ops (Q .normal) E L0 L1 f listed a c → wpAnyIn (fence r) 2 P .any ops Q f listed a w
  | 0, _, _, _, _, _, hw, h => ⟨h.1, h.2 _ hw⟩
  | f + 1, _, _, _, _, ha, hw, h => ⟨fun h0 => h.1 h0 _ hw, fun i hi => eOp_wp (fun ch w hk => hp ch _ w ha hk) (eOp_mono (fun a' w' ⟨c', hc, hk⟩ hd => wpAny_of_wT hp f _ a' c' w' (hd.trans ha) hc hk) (h.2 i hi _ hw))⟩
/-- In whatever frame, what is held yields this, and is as it was. -/
def QI (P : Program) (ops : Array Oper) (Lq : List HE) (o : Oper) (v : Value) (a : Act) : Prop :=
  (Region.wanted o (yielded ops a.tmps) = true ∧ ∀ (c : Cx) w, SC c w Lq → eUpon P noP (fun u w' => u = v ∧ SC c w' Lq) ((execOp a.eval o).run P w)) ∨
  (Region.wanted o (yielded ops a.tmps) = false ∧ v = undef)
theorem QI.of_same {o : Oper} {v : Value} {a a' : Act} (hy : QI P ops Lq o v a) (he : execOp a'.eval o = execOp a.eval o) (hw : Region.wanted o (yielded ops a'.tmps) = Region.wanted o (yielded ops a.tmps)) : QI P ops Lq o v a' := by
  unfold QI at *
  rw [he, hw]
  exact hy
theorem QI.eOp {i : Nat} {o : Oper} {v : Value} {a : Act} (hi : ops[i]? = some o) (hy : QI P ops Lq o v a) {K : Act → World → Prop} {c : Cx} {w : World} (hw : SC c w Lq) (h : ∀ w', SC c w' Lq → K (a.put o.dst v) w') : eOp P PQ ops i K a w := by
  unfold SX.eOp
  simp only [hi]
  rcases hy with ⟨hww, hv⟩ | ⟨hww, rfl⟩
  · simp only [hww, if_true]; exact eUpon_mono (fun _ _ h => h.elim) (fun u w' ⟨e, hs⟩ => by subst e; exact h w' hs) (hv c w hw)
  · simp only [hww, Bool.false_eq_true, if_false]; exact h w hw
theorem eOp_put {j : Nat} {oi oj : Oper} {v : Value} (hj : ops[j]? = some oj) (hap : oi.apart ops oj = true) (hsi : ∀ cs b, oi.op ≠ .select cs b) (hsj : ∀ cs b, oj.op ≠ .select cs b) {K : Act → World → Prop} {a : Act} {w : World}
    (h : SX.eOp P PQ ops j K (a.put oi.dst v) w) : SX.eOp P PQ ops j (fun a' w' => (∃ u, a' = a.put oj.dst u) ∧ K (a'.put oi.dst v) w') a w := by
  obtain ⟨h1, h2, h3⟩ := Oper.apart_spec hap
  unfold SX.eOp at *
  simp only [hj] at *
  rw [wanted_put oj a oi.dst v h1] at h
  split
  · rename_i hw
    simp only [hw, if_true] at h
    rw [execOp_put oj hsj a oi.dst v h1] at h
    refine eUpon_mono (fun _ _ => id) (fun u w' hk => ⟨⟨u, rfl⟩, ?_⟩) h
    rw [← Act.put_comm a v u h2]; exact hk
  · rename_i hw
    simp only [hw] at h
    exact ⟨⟨_, rfl⟩, by rw [← Act.put_comm a v undef h2]; exact h⟩
inductive How | only | early | quiet
/-- The order in which the walk takes the operations. -/
def planB (E : List Nat) (ops : Array Oper) : List (Nat × How) → Array Bool → Bool
  | [], listed => (Region.ready .any ops listed).isEmpty
  | (i, q) :: r, listed => (match q with
    | .only => decide (Region.ready .any ops listed = [i])
    | .early => (Region.ready .any ops listed).contains i && Region.free .any ops listed i && !(E.contains i) && !(anyL E listed) && E.all fun j => waitsT ops ops.size j i
    | .quiet => (Region.ready .any ops listed).contains i && Region.free .any ops listed i && !(E.contains i)) && planB E ops r (listed.setIfInBounds i true)
end
inductive App : List HE → List HE → List HE → Prop
  | n {L} : App [] L L
  | c {x A B C} : App A B C → App (x :: A) B (x :: C)
theorem App.eq {A B C : List HE} (h : App A B C) : C = A ++ B := by
  induction h with
  | n => rfl
  | c _ ih => rw [ih]; rfl
theorem App.st {A B C : List HE} (h : App A B C) {c : Cx} {w : World} : SC c w C → ∃ c' : Cx, SC c' w A ∧ ∀ w', SC c' w' A → SC c w' C := by
  have e := h.eq
  subst e
  intro hs
  obtain ⟨R, hh, hsat, hf, kk⟩ := St.frame hs
  exact ⟨⟨c.D, c.rnd, hh, R, w⟩, St.start hsat hf, fun w' h' => kk w' _ h'⟩
theorem QI.more {P : Program} {ops : Array Oper} {A B C : List HE} (h : App A B C) {o : Oper} {v : Value} {a : Act} (hq : QI P ops A o v a) : QI P ops C o v a := by
  refine hq.imp (fun ⟨hw, hk⟩ => ⟨hw, fun c w hs => ?_⟩) id
  obtain ⟨c', h1, h2⟩ := h.st hs
  exact eUpon_mono (fun _ _ => id) (fun u w' ⟨e, hs'⟩ => ⟨e, h2 w' hs'⟩) (hk c' w h1)
theorem App.split {A B C : List HE} (h : App A B C) {c : Cx} {w : World} (hs : St c.F c.R0 c.w0 w C) : ∃ c' : Cx, SC c' w A ∧ ∀ w', SC c' w' A → St c.F c.R0 c.w0 w' C := by
  have e := h.eq
  subst e
  obtain ⟨R, hh, hsat, hf, kk⟩ := hs.frame
  exact ⟨⟨c.D, c.rnd, hh, R, w⟩, St.start hsat hf, fun w' h' => kk w' _ h'⟩
def howOk : How → Bool
  | .only => false
  | _ => true
/-- The list by which an operation that is taken so reads. -/
def LH (L0 L1 : List HE) : How → List HE
  | .quiet => L1
  | _ => L0
section
variable {P : Program} {PQ : List PanicEntry → World → Prop} {ops : Array Oper} {E : List Nat} {L0 L1 Lx : List HE}
theorem QI.at_ {o : Oper} {v : Value} {a : Act} {q : How} (hq : howOk q = true) (hx : App L1 Lx L0) {listed : Array Bool} (he : q = .early → anyL E listed = false) (h : QI P ops (LH L0 L1 q) o v a) : QI P ops (LQ E L0 L1 listed) o v a := by
  unfold LQ
  cases q with
  | only => cases hq
  | early => rw [if_neg (by rw [he rfl]; simp)]; exact h
  | quiet => split
             · exact h
             · exact h.more hx
theorem wT_first {Q : Act → World → Prop} {i : Nat} {oi : Oper} {v : Value} {q : How} (hq : howOk q = true) (hx : App L1 Lx L0) (hi : ops[i]? = some oi) (hsel : ∀ (j : Nat) (o : Oper) cs b, ops[j]? = some o → o.op ≠ .select cs b) (hiE : i ∉ E) (hwt : q = .early → ∀ j ∈ E, waitsT ops ops.size j i = true) :
    ∀ (f : Nat) (listed : Array Bool) (a : Act) (c : Cx), closedL ops listed → (q = .early → anyL E listed = false) → (∀ j oj, ops[j]? = some oj → j ≠ i → listed.getD j true = false → (∀ e ∈ oj.after, Region.binds .any e = true → e.on ≠ i) → oi.apart ops oj = true) →
      i ∈ Region.ready .any ops listed → QI P ops (LH L0 L1 q) oi v a → wT P PQ ops Q E L0 L1 f (listed.setIfInBounds i true) (a.put oi.dst v) c → wT P PQ ops Q E L0 L1 (f + 1) listed a c := by
  intro f
  induction f with
  | zero =>
    intro listed a c hcl hel _ hr hy H
    refine ⟨fun h => (by rw [h] at hr; cases hr), fun j hj w hww => ?_⟩
    by_cases hji : j = i
    · subst hji; exact (hy.at_ hq hx hel).eOp hi hww fun w' hw' => ⟨c, by rw [LQ_set hiE]; exact hw', H⟩
    · have := ready_mono hj hji
      rw [H.1] at this
      cases this
  | succ f ih =>
    intro listed a c hcl hel hfree hr hy H
    refine ⟨fun h => (by rw [h] at hr; cases hr), fun j hj w hww => ?_⟩
    by_cases hji : j = i
    · subst hji; exact (hy.at_ hq hx hel).eOp hi hww fun w' hw' => ⟨c, by rw [LQ_set hiE]; exact hw', H⟩
    · have h1 := H.2 j (ready_mono hj hji) w (by rw [LQ_set hiE]; exact hww)
      obtain ⟨hjun, oj, hoj, hall⟩ := mem_ready.1 hj
      have hiun := (mem_ready.1 hr).1
      have hnot : ∀ e ∈ oj.after, Region.binds .any e = true → e.on ≠ i := fun e he hb heq => by
        have h1 := hall e he hb
        rw [heq, getD_both hiun] at h1
        cases h1
      have hap := hfree j oj hoj hji hjun hnot
      have h2 := eOp_put hoj hap (fun cs b => hsel i oi cs b hi) (fun cs b => hsel j oj cs b hoj) h1
      have hfree' : ∀ k ok, ops[k]? = some ok → k ≠ i → (listed.setIfInBounds j true).getD k true = false → (∀ e ∈ ok.after, Region.binds .any e = true → e.on ≠ i) → oi.apart ops ok = true := fun k ok hk hki hun hno => by
        refine hfree k ok hk hki ?_ hno
        by_cases hjk : j = k
        · subst hjk; exact hjun
        · rw [getD_set_ne true hjk] at hun; exact hun
      have hel' : q = .early → anyL E (listed.setIfInBounds j true) = false := fun hqe => by
        by_cases hjE : j ∈ E
        · have := waitsT_ready hcl (hwt hqe j hjE) hj
          rw [getD_both hiun] at this
          cases this
        · rw [anyL_set hjE]; exact hel hqe
      refine eOp_mono (fun a' w' ⟨⟨u, hu⟩, c', hc, h3⟩ => ⟨c', ?_, ih (listed.setIfInBounds j true) a' c' (hcl.set hj) hel' hfree' (ready_mono hr (Ne.symm hji)) ?_ ?_⟩) h2
      · rw [Array.setIfInBounds_comm _ _ (Ne.symm hji), LQ_set hiE] at hc; exact hc
      · subst hu
        obtain ⟨h1, h2, h3⟩ := Oper.apart_spec hap
        exact hy.of_same (execOp_put oi (fun cs b => hsel i oi cs b hi) a oj.dst u h3) (wanted_put oi a oj.dst u h3)
      · rw [Array.setIfInBounds_comm _ _ hji]
        exact h3
theorem wT_take {K : Act → World → Prop} {o : Oper} {v : Value} {a : Act} {listed : Array Bool} {c' : Cx} {i : Nat} {q : How} {plan : List (Nat × How)} (hq : howOk q = true) (hx : App L1 Lx L0) (hi : ops[i]? = some o) (hp : planB E ops ((i, q) :: plan) listed = true) (hn : Region.noSelect ops = true) (hcl : closedL ops listed) (hy : QI P ops (LH L0 L1 q) o v a)
    (k : planB E ops plan (listed.setIfInBounds i true) = true → closedL ops (listed.setIfInBounds i true) → LQ E L0 L1 (listed.setIfInBounds i true) = LQ E L0 L1 listed → wT P PQ ops K E L0 L1 plan.length (listed.setIfInBounds i true) (a.put o.dst v) c') : wT P PQ ops K E L0 L1 (plan.length + 1) listed a c' := by
  cases q with
  | only => cases hq
  | early =>
    simp only [planB, Bool.and_eq_true, Bool.not_eq_true'] at hp
    obtain ⟨⟨⟨⟨⟨h1, h2⟩, h3⟩, h4⟩, h5⟩, h6⟩ := hp
    have h1' : i ∈ Region.ready .any ops listed := by simpa using h1
    have h3' : i ∉ E := by simpa using h3
    exact wT_first rfl hx hi (Region.noSelect_spec hn) h3' (fun _ j hj => List.all_eq_true.1 h5 j hj) _ listed a c' hcl (fun _ => h4) (Region.free_spec hi h2) h1' hy (k h6 (hcl.set h1') (LQ_set h3'))
  | quiet =>
    simp only [planB, Bool.and_eq_true, Bool.not_eq_true'] at hp
    obtain ⟨⟨⟨h1, h2⟩, h3⟩, h6⟩ := hp
    have h1' : i ∈ Region.ready .any ops listed := by simpa using h1
    have h3' : i ∉ E := by simpa using h3
    exact wT_first rfl hx hi (Region.noSelect_spec hn) h3' (fun e => by cases e) _ listed a c' hcl (fun e => by cases e) (Region.free_spec hi h2) h1' hy (k h6 (hcl.set h1') (LQ_set h3'))
theorem wT_only {K : Act → World → Prop} {o : Oper} {a : Act} {listed : Array Bool} {c' : Cx} {i : Nat} {plan : List (Nat × How)} (hi : ops[i]? = some o) (hg : Region.wanted o (yielded ops a.tmps) = true) (hp : planB E ops ((i, .only) :: plan) listed = true) (hcl : closedL ops listed)
    (k : planB E ops plan (listed.setIfInBounds i true) = true → closedL ops (listed.setIfInBounds i true) → ∀ w, SC c' w (LQ E L0 L1 listed) → eUpon P PQ (fun u w' => ∃ c2 : Cx, SC c2 w' (LQ E L0 L1 (listed.setIfInBounds i true)) ∧ wT P PQ ops K E L0 L1 plan.length (listed.setIfInBounds i true) (a.put o.dst u) c2) ((execOp a.eval o).run P w)) : wT P PQ ops K E L0 L1 (plan.length + 1) listed a c' := by
  simp only [planB, Bool.and_eq_true, decide_eq_true_eq] at hp
  refine ⟨fun h0 => (by rw [h0] at hp; cases hp.1), fun j hj w hw => ?_⟩
  have hj' := hj
  rw [hp.1] at hj
  have : j = i := by simpa using hj
  subst this
  unfold eOp
  simp only [hi, hg, if_true]
  exact k hp.2 (hcl.set hj') w hw
end
section
variable {O : Type} (P : Program) (N : Nat) (c : Cx) (B : O → Exit → Act → World → Prop) (ks : List (KI O)) (m : Option O)
/-- What is asked at a panic, whatever the slots hold. -/
def PQ (out : O) : List PanicEntry → World → Prop := fun ch w => ∀ a : Act, a.defers = c.D → B out (.panic ch) a w
structure MI (ops : Array Oper) (E : List Nat) (L0 L1 Lx : List HE) (plan : List (Nat × How)) (listed : Array Bool) (c c' : Cx) (L : List HE) : Prop where
  app : App L1 Lx L0
  ok : planB E ops plan listed = true
  sel : Region.noSelect ops = true
  closed : closedL ops listed
  st : ∀ w, SC c' w (LQ E L0 L1 listed) → St c.F c.R0 c.w0 w L
def WM (ops : Array Oper) (E : List Nat) (L0 L1 Lx : List HE) (plan : List (Nat × How)) (l : List (Nat × Value)) (L : List HE) : Prop :=
  ∀ out, m = some out → ∀ a listed (c' : Cx), MI ops E L0 L1 Lx plan listed c c' L → Env N c.D a l → wT P (SX.PQ c B out) ops (KQ P c.rnd B out ks .normal) E L0 L1 plan.length listed a c'
end
section
variable {O : Type} {P : Program} {N : Nat} {c : Cx} {B : O → Exit → Act → World → Prop} {ks : List (KI O)} {m : Option O} {l : List (Nat × Value)} {L L0 L1 Lx : List HE} {E : List Nat} {q : How}
  {ops : Array Oper} {plan : List (Nat × How)} {op : Op} {ty : TypeId} {p : String} {af : Array Edge} {v : Value} {i : Nat}
theorem cRegionM {id : Nat} {ol : List Oper} {L2 : List HE} (E : List Nat) (plan : List (Nat × How)) (hm : P.follows .mixedOrders = true) (hB : (decide (plan.length = ol.length) && Region.noSelect ol.toArray && planB E ol.toArray plan (Array.replicate ol.length false)) = true) (hs : Sub L L2) (ha : App L1 Lx L2)
    (h : WM P N c B ks m ol.toArray E L2 L1 Lx plan l L2) : WC P N c B ks m (.region id ol.toArray true) l L := fun out hm' a w he hst => by
  simp only [Bool.and_eq_true, decide_eq_true_eq] at hB
  obtain ⟨⟨h1, h2⟩, h3⟩ := hB
  have h0 : LQ E L2 L1 (Array.replicate ol.length false) = L2 := by
    unfold LQ anyL
    rw [if_neg]
    intro hh
    obtain ⟨j, _, hj⟩ := List.any_eq_true.1 hh
    rw [getD_replicate_false] at hj
    cases hj
  have hc : SC c (w.drewN 1) (LQ E L2 L1 (Array.replicate ol.length false)) := by rw [h0]; exact hs.st (hst.draw 1)
  refine wpIn_region_any hm ?_
  have := wpAny_of_wT (r := c.rnd) (D := c.D) (Q := KQ P c.rnd B out ks) (fun ch a w ha hk => by rw [KQ_panic]; exact hk a ha) _ _ _ c _ he.defers hc (h out hm' a _ c ⟨ha, h3, h2, ⟨by simp, fun j oj _ hl => (by rw [getD_replicate_false] at hl; cases hl)⟩, by rw [h0]; exact fun w h => h⟩ he)
  rw [h1] at this
  exact this
theorem mNil (h : WX P N c B ks m .normal l L) : WM P N c B ks m ops E L0 L1 Lx [] l L := fun out hm a listed c' hI he => ⟨by simpa [planB] using hI.ok, fun w hw => h out hm a w he (hI.st w hw)⟩
theorem MI.take {PQ : List PanicEntry → World → Prop} {K : Act → World → Prop} {o : Oper} {a : Act} {listed : Array Bool} {c' : Cx} (hI : MI ops E L0 L1 Lx ((i, q) :: plan) listed c c' L) (hq : howOk q = true) (hi : ops[i]? = some o) (hy : QI P ops (LH L0 L1 q) o v a)
    (k : MI ops E L0 L1 Lx plan (listed.setIfInBounds i true) c c' L → wT P PQ ops K E L0 L1 plan.length (listed.setIfInBounds i true) (a.put o.dst v) c') : wT P PQ ops K E L0 L1 (plan.length + 1) listed a c' :=
  wT_take hq hI.app hi hI.ok hI.sel hI.closed hy fun h1 h2 h3 => k ⟨hI.app, h1, hI.sel, h2, by rw [h3]; exact hI.st⟩
/-- One that changes what is held comes alone. -/
theorem MI.only {PQ : List PanicEntry → World → Prop} {K : Act → World → Prop} {o : Oper} {a : Act} {listed : Array Bool} {c' : Cx} (hI : MI ops E L0 L1 Lx ((i, .only) :: plan) listed c c' L) (hE : E.contains i = true) (hi : ops[i]? = some o) (hg : Region.wanted o (yielded ops a.tmps) = true)
    (k : ∀ w, St c.F c.R0 c.w0 w L → eUpon P PQ (fun u w' => ∃ L2 Ly, App L1 Ly L2 ∧ St c.F c.R0 c.w0 w' L2 ∧ ∀ c2 : Cx, MI ops E L0 L1 Lx plan (listed.setIfInBounds i true) c c2 L2 → wT P PQ ops K E L0 L1 plan.length (listed.setIfInBounds i true) (a.put o.dst u) c2) ((execOp a.eval o).run P w)) : wT P PQ ops K E L0 L1 (plan.length + 1) listed a c' :=
  wT_only hi hg hI.ok hI.closed fun h1 h2 w hw => eUpon_mono (fun _ _ => id) (fun u w' ⟨L2, Ly, ha, hs, kk⟩ => by
    obtain ⟨c2, g1, g2⟩ := ha.split hs
    have hlt : i < listed.size := by rw [hI.closed.1]; exact (Array.getElem?_eq_some_iff.1 hi).1
    have hL : LQ E L0 L1 (listed.setIfInBounds i true) = L1 := by
      unfold LQ
      rw [anyL_true (by simpa using hE) hlt, if_pos rfl]
    exact ⟨c2, by rw [hL]; exact g1, kk c2 ⟨hI.app, h1, hI.sel, h2, by rw [hL]; exact g2⟩⟩) (k w (hI.st w hw))
theorem mRd {d : Nat} (hq : howOk q = true) (hi : ops[i]? = some ⟨some d, op, ty, p, af, none⟩) (h : ∀ F R0 w0, Rd P N ⟨c.D, c.rnd, F, R0, w0⟩ op l (LH L0 L1 q) v) (hd : Nat.blt d N = true) (hn : nokey d l = true) (k : WM P N c B ks m ops E L0 L1 Lx plan ((d, v) :: l) L) : WM P N c B ks m ops E L0 L1 Lx ((i, q) :: plan) l L := fun out hm a listed c' hI he =>
  hI.take hq hi (.inl ⟨wanted_none rfl, fun c2 w hw => by rw [h c2.F c2.R0 c2.w0 _ a w rfl he hw]; exact ⟨rfl, hw⟩⟩) fun hI' => k out hm _ _ c' hI' (he.put v hd hn)
theorem mRdK {d : Nat} {l' : List (Nat × Value)} (hq : howOk q = true) (hi : ops[i]? = some ⟨some d, op, ty, p, af, none⟩) (h : ∀ F R0 w0, Rd P N ⟨c.D, c.rnd, F, R0, w0⟩ op l (LH L0 L1 q) v) (kp : Keep l l') (hd : Nat.blt d N = true) (hn : nokey d l' = true) (k : WM P N c B ks m ops E L0 L1 Lx plan ((d, v) :: l') L) : WM P N c B ks m ops E L0 L1 Lx ((i, q) :: plan) l L := fun out hm a listed c' hI he =>
  hI.take hq hi (.inl ⟨wanted_none rfl, fun c2 w hw => by rw [h c2.F c2.R0 c2.w0 _ a w rfl he hw]; exact ⟨rfl, hw⟩⟩) fun hI' => k out hm _ _ c' hI' ((he.keep kp).put v hd hn)
def nokeyO (d : Option Nat) (l : List (Nat × Value)) : Bool := match d with | some d => nokey d l | none => true
theorem Env.skip' {D : List Deferred} {a : Act} (he : Env N D a l) {d : Option Nat} (v : Value) (hn : nokeyO d l = true) : Env N D (a.put d v) l := by
  cases d with
  | none => exact he
  | some d => exact he.skip v hn
theorem mRdN {d : Option Nat} (hq : howOk q = true) (hi : ops[i]? = some ⟨d, op, ty, p, af, none⟩) (h : ∀ F R0 w0, Rd P N ⟨c.D, c.rnd, F, R0, w0⟩ op l (LH L0 L1 q) v) (hn : nokeyO d l = true) (k : WM P N c B ks m ops E L0 L1 Lx plan l L) : WM P N c B ks m ops E L0 L1 Lx ((i, q) :: plan) l L := fun out hm a listed c' hI he =>
  hI.take hq hi (.inl ⟨wanted_none rfl, fun c2 w hw => by rw [h c2.F c2.R0 c2.w0 _ a w rfl he hw]; exact ⟨rfl, hw⟩⟩) fun hI' => k out hm _ _ c' hI' (he.skip' v hn)
theorem mRdG {d j dj : Nat} {b b' : Bool} (hq : howOk q = true) (hi : ops[i]? = some ⟨some d, op, ty, p, af, some (j, b)⟩) (hj : (ops[j]?).bind (·.dst) = some dj) (hg : Lk l dj (.bool b')) (hb : b' = b) (h : ∀ F R0 w0, Rd P N ⟨c.D, c.rnd, F, R0, w0⟩ op l (LH L0 L1 q) v) (hd : Nat.blt d N = true) (hn : nokey d l = true) (k : WM P N c B ks m ops E L0 L1 Lx plan ((d, v) :: l) L) :
    WM P N c B ks m ops E L0 L1 Lx ((i, q) :: plan) l L := fun out hm a listed c' hI he => by
  subst hb
  have hw : Region.wanted ⟨some d, op, ty, p, af, some (j, b')⟩ (yielded ops a.tmps) = true := by simp [Region.wanted, yielded, hj, he.at_ _ _ hg]
  exact hI.take hq hi (.inl ⟨hw, fun c2 w hw => by rw [h c2.F c2.R0 c2.w0 _ a w rfl he hw]; exact ⟨rfl, hw⟩⟩) fun hI' => k out hm _ _ c' hI' (he.put v hd hn)
theorem mPass {d : Option Nat} {j dj : Nat} {b : Bool} {u : Value} (hq : howOk q = true) (hi : ops[i]? = some ⟨d, op, ty, p, af, some (j, b)⟩) (hj : (ops[j]?).bind (·.dst) = some dj) (hg : Lk l dj u) (hu : isB u ≠ some b) (hn : nokeyO d l = true) (k : WM P N c B ks m ops E L0 L1 Lx plan l L) :
    WM P N c B ks m ops E L0 L1 Lx ((i, q) :: plan) l L := fun out hm a listed c' hI he =>
  hI.take hq hi (.inr ⟨not_wanted hj hg hu he, rfl⟩) fun hI' => k out hm _ _ c' hI' (he.skip' _ hn)
theorem mPassU {d : Nat} {j dj : Nat} {b : Bool} {u : Value} (hq : howOk q = true) (hi : ops[i]? = some ⟨some d, op, ty, p, af, some (j, b)⟩) (hj : (ops[j]?).bind (·.dst) = some dj) (hg : Lk l dj u) (hu : isB u ≠ some b) (hd : Nat.blt d N = true) (hn : nokey d l = true) (k : WM P N c B ks m ops E L0 L1 Lx plan ((d, undef) :: l) L) :
    WM P N c B ks m ops E L0 L1 Lx ((i, q) :: plan) l L := fun out hm a listed c' hI he =>
  hI.take hq hi (.inr ⟨not_wanted hj hg hu he, rfl⟩) fun hI' => k out hm _ _ c' hI' (he.put _ hd hn)
theorem mCase {q : Prop} [Decidable q] {A A' : Option O} (ht : q → WM P N c B ks A ops E L0 L1 Lx plan l L) (hf : ¬ q → WM P N c B ks A' ops E L0 L1 Lx plan l L) : WM P N c B ks (if q then A else A') ops E L0 L1 Lx plan l L := by
  by_cases hp : q
  · rw [if_pos hp]; exact ht hp
  · rw [if_neg hp]; exact hf hp
theorem mGuard {q : Prop} [Decidable q] {A : Option O} (ht : q → WM P N c B ks A ops E L0 L1 Lx plan l L) : WM P N c B ks (if q then A else none) ops E L0 L1 Lx plan l L := mCase ht fun _ out hm => by cases hm
theorem mIx {α : Type} {xs : List α} {i : Int} {M2 : α → Option O} (k : ∀ y, 0 ≤ i → xs[i.toNat]? = some y → WM P N c B ks (M2 y) ops E L0 L1 Lx plan l L) : WM P N c B ks ((ix xs i).bind M2) ops E L0 L1 Lx plan l L := by
  intro out hm
  obtain ⟨y, e1, e2⟩ := Option.bind_eq_some_iff.1 hm
  obtain ⟨h1, h2, _⟩ := ix_some e1
  exact k y h1 h2 out e2
theorem mBind {β : Type} {m1 : Option β} {M2 : β → Option O} (k : ∀ y, m1 = some y → WM P N c B ks (M2 y) ops E L0 L1 Lx plan l L) : WM P N c B ks (m1.bind M2) ops E L0 L1 Lx plan l L := by
  intro out hm
  obtain ⟨y, e1, e2⟩ := Option.bind_eq_some_iff.1 hm
  exact k y e1 out e2
theorem mKeep {l' : List (Nat × Value)} (kp : Keep l l') (h : WM P N c B ks m ops E L0 L1 Lx plan l' L) : WM P N c B ks m ops E L0 L1 Lx plan l L := fun out hm a listed c' hI he => h out hm a listed c' hI (he.keep kp)
/-- A call that leaves all that it reads as it was. -/
theorem mCallQ {O' X : Type} {d : Nat} {g : FuncId} {xs : List Operand} {vs : List Value} {ats : Array TypeId} {A Lr : List HE} {m1 : Option O'} {M2 : O' → Option O} {res : O' → X → Value} {Lo : O' → X → List HE} {rv : O' → Value} (hq : howOk q = true) (hi : ops[i]? = some ⟨some d, .call { callee := .value (.func g), args := xs.toArray, argTypes := ats }, ty, p, af, none⟩)
    (hg : fnOk P g = true) (ha : EvL l xs vs) (hc : Con P g vs.toArray A m1 res Lo) (pk : Pick (LH L0 L1 q) A Lr)
    (hr : ∀ o x, res o x = rv o) (hL' : ∀ o x, Sub (Lo o x ++ Lr) (LH L0 L1 q)) (hd : Nat.blt d N = true) (hn : nokey d l = true) (k : ∀ o, m1 = some o → WM P N c B ks (M2 o) ops E L0 L1 Lx plan ((d, rv o) :: l) L) :
    WM P N c B ks (m1.bind M2) ops E L0 L1 Lx ((i, q) :: plan) l L := fun out hm a listed c' hI he => by
  obtain ⟨o, e1, e2⟩ := Option.bind_eq_some_iff.1 hm
  refine hI.take (v := rv o) hq hi (.inl ⟨wanted_none rfl, fun c2 w hw => ?_⟩) fun hI' => k o e1 out e2 _ _ c' hI' (he.put _ hd hn)
  have hrun : (execOp a.eval ⟨some d, .call { callee := .value (.func g), args := xs.toArray, argTypes := ats }, ty, p, af, none⟩).run P w = .ok (.enter g vs.toArray) w := by
    rw [execOp_call_go, run_callFunc hg]; simp [ha.eq he]
  rw [hrun]
  refine eUpon_ret ((hc.use pk e1 hw).mono ?_)
  rintro e w' ⟨x, rfl, hst⟩
  exact ⟨_, rfl, hr o x, (hL' o x).st hst⟩
theorem mCallQG {O' X : Type} {d j dj : Nat} {b b' : Bool} {g : FuncId} {xs : List Operand} {vs : List Value} {ats : Array TypeId} {A Lr : List HE} {m1 : Option O'} {M2 : O' → Option O} {res : O' → X → Value} {Lo : O' → X → List HE} {rv : O' → Value} (hq : howOk q = true) (hi : ops[i]? = some ⟨some d, .call { callee := .value (.func g), args := xs.toArray, argTypes := ats }, ty, p, af, some (j, b)⟩)
    (hj : (ops[j]?).bind (·.dst) = some dj) (hgd : Lk l dj (.bool b')) (hb : b' = b) (hg : fnOk P g = true) (ha : EvL l xs vs) (hc : Con P g vs.toArray A m1 res Lo) (pk : Pick (LH L0 L1 q) A Lr)
    (hr : ∀ o x, res o x = rv o) (hL' : ∀ o x, Sub (Lo o x ++ Lr) (LH L0 L1 q)) (hd : Nat.blt d N = true) (hn : nokey d l = true) (k : ∀ o, m1 = some o → WM P N c B ks (M2 o) ops E L0 L1 Lx plan ((d, rv o) :: l) L) :
    WM P N c B ks (m1.bind M2) ops E L0 L1 Lx ((i, q) :: plan) l L := fun out hm a listed c' hI he => by
  subst hb
  obtain ⟨o, e1, e2⟩ := Option.bind_eq_some_iff.1 hm
  have hw : Region.wanted ⟨some d, .call { callee := .value (.func g), args := xs.toArray, argTypes := ats }, ty, p, af, some (j, b')⟩ (yielded ops a.tmps) = true := by simp [Region.wanted, yielded, hj, he.at_ _ _ hgd]
  refine hI.take (v := rv o) hq hi (.inl ⟨hw, fun c2 w hw => ?_⟩) fun hI' => k o e1 out e2 _ _ c' hI' (he.put _ hd hn)
  have hrun : (execOp a.eval ⟨some d, .call { callee := .value (.func g), args := xs.toArray, argTypes := ats }, ty, p, af, some (j, b')⟩).run P w = .ok (.enter g vs.toArray) w := by
    rw [execOp_call_go, run_callFunc hg]; simp [ha.eq he]
  rw [hrun]
  refine eUpon_ret ((hc.use pk e1 hw).mono ?_)
  rintro e w' ⟨x, rfl, hst⟩
  exact ⟨_, rfl, hr o x, (hL' o x).st hst⟩
theorem mCh {X : Type} {d : Nat} {v : X → Value} {L' L2 Ly : X → List HE} (hE : E.contains i = true) (hi : ops[i]? = some ⟨some d, op, ty, p, af, none⟩) (h : Ch P N c op l L v L') (hs : ∀ x, Sub (L' x) (L2 x)) (ha : ∀ x, App L1 (Ly x) (L2 x)) (hd : Nat.blt d N = true) (hn : nokey d l = true)
    (k : ∀ x, WM P N c B ks m ops E L0 L1 Lx plan ((d, v x) :: l) (L2 x)) : WM P N c B ks m ops E L0 L1 Lx ((i, .only) :: plan) l L := fun out hm a listed c' hI he =>
  hI.only hE hi (wanted_none rfl) fun w hw => by
    obtain ⟨x, w', hr, hst⟩ := h ⟨some d, op, ty, p, af, none⟩ a w rfl he hw
    rw [hr]
    exact ⟨_, _, ha x, (hs x).st hst, fun c2 hI' => k x out hm _ _ c2 hI' (he.put _ hd hn)⟩
theorem mChU {L' L2 Ly : List HE} (hE : E.contains i = true) (hi : ops[i]? = some ⟨none, op, ty, p, af, none⟩) (h : ChU P N c op l L L') (hs : Sub L' L2) (ha : App L1 Ly L2) (k : WM P N c B ks m ops E L0 L1 Lx plan l L2) : WM P N c B ks m ops E L0 L1 Lx ((i, .only) :: plan) l L := fun out hm a listed c' hI he =>
  hI.only hE hi (wanted_none rfl) fun w hw => by
    obtain ⟨w', hr, hst⟩ := h ⟨none, op, ty, p, af, none⟩ a w rfl he hw
    rw [hr]
    exact ⟨_, _, ha, hs.st hst, fun c2 hI' => k out hm _ _ c2 hI' he⟩
theorem mCall {O' X : Type} {d : Nat} {g : FuncId} {xs : List Operand} {vs : List Value} {ats : Array TypeId} {A Lr : List HE} {m1 : Option O'} {M2 : O' → Option O} {res : O' → X → Value} {Lo L2 Ly : O' → X → List HE} (hE : E.contains i = true) (hi : ops[i]? = some ⟨some d, .call { callee := .value (.func g), args := xs.toArray, argTypes := ats }, ty, p, af, none⟩)
    (hg : fnOk P g = true) (ha : EvL l xs vs) (hc : Con P g vs.toArray A m1 res Lo) (pk : Pick L A Lr) (hs : ∀ o x, Sub (Lo o x ++ Lr) (L2 o x)) (hap : ∀ o x, App L1 (Ly o x) (L2 o x)) (hd : Nat.blt d N = true) (hn : nokey d l = true)
    (k : ∀ o x, m1 = some o → WM P N c B ks (M2 o) ops E L0 L1 Lx plan ((d, res o x) :: l) (L2 o x)) : WM P N c B ks (m1.bind M2) ops E L0 L1 Lx ((i, .only) :: plan) l L := fun out hm a listed c' hI he => by
  obtain ⟨o, e1, e2⟩ := Option.bind_eq_some_iff.1 hm
  refine hI.only hE hi (wanted_none rfl) fun w hw => ?_
  have hrun : (execOp a.eval ⟨some d, .call { callee := .value (.func g), args := xs.toArray, argTypes := ats }, ty, p, af, none⟩).run P w = .ok (.enter g vs.toArray) w := by
    rw [execOp_call_go, run_callFunc hg]; simp [ha.eq he]
  rw [hrun]
  refine eUpon_ret ((hc.use pk e1 hw).mono ?_)
  rintro e w' ⟨x, rfl, hst⟩
  exact ⟨_, rfl, _, _, hap o x, (hs o x).st hst, fun c2 hI' => k o x e1 out e2 _ _ c2 hI' (he.put _ hd hn)⟩
/-- With a fact on what comes back. -/
theorem mCallF {O' X : Type} {d : Nat} {g : FuncId} {xs : List Operand} {vs : List Value} {ats : Array TypeId} {A Lr : List HE} {m1 : Option O'} {M2 : O' → Option O} {res : O' → X → Value} {Lo L2 Ly : O' → X → List HE} {q : O' → X → Prop} (hE : E.contains i = true) (hi : ops[i]? = some ⟨some d, .call { callee := .value (.func g), args := xs.toArray, argTypes := ats }, ty, p, af, none⟩)
    (hg : fnOk P g = true) (ha : EvL l xs vs) (hc : Con P g vs.toArray A m1 res Lo) (pk : Pick L A Lr) (hs : ∀ o x, Sub (Lo o x ++ Lr) (L2 o x)) (hap : ∀ o x, App L1 (Ly o x) (L2 o x)) (hd : Nat.blt d N = true) (hn : nokey d l = true) (hq : ∀ o x w, St c.F c.R0 c.w0 w (L2 o x) → q o x)
    (k : ∀ o x, m1 = some o → q o x → WM P N c B ks (M2 o) ops E L0 L1 Lx plan ((d, res o x) :: l) (L2 o x)) : WM P N c B ks (m1.bind M2) ops E L0 L1 Lx ((i, .only) :: plan) l L := fun out hm a listed c' hI he => by
  obtain ⟨o, e1, e2⟩ := Option.bind_eq_some_iff.1 hm
  refine hI.only hE hi (wanted_none rfl) fun w hw => ?_
  have hrun : (execOp a.eval ⟨some d, .call { callee := .value (.func g), args := xs.toArray, argTypes := ats }, ty, p, af, none⟩).run P w = .ok (.enter g vs.toArray) w := by
    rw [execOp_call_go, run_callFunc hg]; simp [ha.eq he]
  rw [hrun]
  refine eUpon_ret ((hc.use pk e1 hw).mono ?_)
  rintro e w' ⟨x, rfl, hst⟩
  exact ⟨_, rfl, _, _, hap o x, (hs o x).st hst, fun c2 hI' => k o x e1 (hq o x w' ((hs o x).st hst)) out e2 _ _ c2 hI' (he.put _ hd hn)⟩
theorem mCallN {O' X : Type} {d : Option Nat} {g : FuncId} {xs : List Operand} {vs : List Value} {ats : Array TypeId} {A Lr : List HE} {m1 : Option O'} {M2 : O' → Option O} {res : O' → X → Value} {Lo L2 Ly : O' → X → List HE} (hE : E.contains i = true) (hi : ops[i]? = some ⟨d, .call { callee := .value (.func g), args := xs.toArray, argTypes := ats }, ty, p, af, none⟩)
    (hg : fnOk P g = true) (ha : EvL l xs vs) (hc : Con P g vs.toArray A m1 res Lo) (pk : Pick L A Lr) (hs : ∀ o x, Sub (Lo o x ++ Lr) (L2 o x)) (hap : ∀ o x, App L1 (Ly o x) (L2 o x)) (hn : nokeyO d l = true)
    (k : ∀ o x, m1 = some o → WM P N c B ks (M2 o) ops E L0 L1 Lx plan l (L2 o x)) : WM P N c B ks (m1.bind M2) ops E L0 L1 Lx ((i, .only) :: plan) l L := fun out hm a listed c' hI he => by
  obtain ⟨o, e1, e2⟩ := Option.bind_eq_some_iff.1 hm
  refine hI.only hE hi (wanted_none rfl) fun w hw => ?_
  have hrun : (execOp a.eval ⟨d, .call { callee := .value (.func g), args := xs.toArray, argTypes := ats }, ty, p, af, none⟩).run P w = .ok (.enter g vs.toArray) w := by
    rw [execOp_call_go, run_callFunc hg]; simp [ha.eq he]
  rw [hrun]
  refine eUpon_ret ((hc.use pk e1 hw).mono ?_)
  rintro e w' ⟨x, rfl, hst⟩
  exact ⟨_, rfl, _, _, hap o x, (hs o x).st hst, fun c2 hI' => k o x e1 out e2 _ _ c2 hI' (he.skip' _ hn)⟩
theorem mStuck : WM P N c B ks none ops E L0 L1 Lx plan l L := fun out hm => by cases hm
theorem mSt' {L' : List HE} (s : ∀ w, St c.F c.R0 c.w0 w L → St c.F c.R0 c.w0 w L') (h : WM P N c B ks m ops E L0 L1 Lx plan l L') : WM P N c B ks m ops E L0 L1 Lx plan l L := fun out hm a listed c' hI he =>
  h out hm a listed c' ⟨hI.app, hI.ok, hI.sel, hI.closed, fun w hw => s w (hI.st w hw)⟩ he
end
end Go.Proofs.YtecipnjloenndaaDoor.SX
