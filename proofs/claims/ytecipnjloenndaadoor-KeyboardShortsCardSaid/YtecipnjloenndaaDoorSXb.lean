/-
Judgements over code, a model of it in step, and the rules of control.
-/
import Derived.Test.YtecipnjloenndaaDoorSXa
import Derived.RangeFuncLeaves
import Derived.TacticsIn
import Derived.LoopNIn
import Derived.OrdersIn
import Derived.RecoverIn
set_option linter.unusedVariables false
set_option linter.unusedSimpArgs false
namespace Go.Proofs.YtecipnjloenndaaDoor.SX
open Go Go.RowKit

/-- The fence that lets all in; in a round of a range over a function, or not. -/
def fence (r : Option Nat) : Fence := { fn := fun _ => True, depth := none, alive := false, round := r }
structure Cx where
  D : List Deferred
  rnd : Option Nat
  F : PH
  R0 : PH
  w0 : World

/-! ### The frame's slots -/
inductive Lk : List (Nat × Value) → Nat → Value → Prop
  | z {t v l} : Lk ((t, v) :: l) t v
  | s {p l t v} : Lk l t v → Lk (p :: l) t v
inductive Ev : List (Nat × Value) → Operand → Value → Prop
  | t {l t v} : Lk l t v → Ev l (.tmp t) v
  | c {l v v'} : v = v' → Ev l (.const v) v'
  | f {l g} : Ev l (.func g) (.func (.func g) #[] #[])
  | g {l g} : Ev l (.global g) (.pointer (some ⟨g, 0, none⟩))
inductive Keep : List (Nat × Value) → List (Nat × Value) → Prop
  | n {l} : Keep l []
  | k {x l l'} : Keep l l' → Keep (x :: l) (x :: l')
  | d {x l l'} : Keep l l' → Keep (x :: l) l'
theorem Keep.lk {l l' : List (Nat × Value)} (h : Keep l l') : ∀ {t v}, Lk l' t v → Lk l t v := by
  induction h with
  | n => intro t v h; cases h
  | k _ ih => intro t v h; cases h with
    | z => exact .z
    | s h => exact .s (ih h)
  | d _ ih => intro t v h; exact .s (ih h)
theorem Keep.refl : ∀ l : List (Nat × Value), Keep l l
  | [] => .n
  | _ :: l => .k (Keep.refl l)
/-- Each slot of a list is one of another one's. -/
def Le (l l' : List (Nat × Value)) : Prop := ∀ t v, Lk l' t v → Lk l t v
inductive Lks : List (Nat × Value) → List (Nat × Value) → Prop
  | n {l} : Lks l []
  | c {l t v l'} : Lk l t v → Lks l l' → Lks l ((t, v) :: l')
theorem Lks.lk {l l' : List (Nat × Value)} (h : Lks l l') : ∀ {t v}, Lk l' t v → Lk l t v := by
  induction h with
  | n => intro t v h; cases h
  | c h _ ih => intro t v k; cases k with
    | z => exact h
    | s k => exact ih k
def nokey (d : Nat) : List (Nat × Value) → Bool
  | [] => true
  | (t, _) :: l => match Nat.beq d t with
    | true => false
    | false => nokey d l
theorem nokey_lk {d : Nat} : ∀ {l : List (Nat × Value)} {t v}, nokey d l = true → Lk l t v → t ≠ d := by
  intro l
  induction l with
  | nil => intro t v _ h; cases h
  | cons p l ih =>
    intro t v h k
    obtain ⟨t', v'⟩ := p
    simp only [nokey] at h
    split at h
    · cases h
    · rename_i hb
      cases k with
      | z => exact fun e => by subst e; rw [Nat.beq_refl] at hb; cases hb
      | s k => exact ih h k

structure Env (N : Nat) (D : List Deferred) (a : Act) (l : List (Nat × Value)) : Prop where
  size : a.tmps.size = N
  defers : a.defers = D
  at_ : ∀ t v, Lk l t v → a.tmps[t]? = some v
theorem Env.eval {N : Nat} {D : List Deferred} {a : Act} {l : List (Nat × Value)} (h : Env N D a l) {x : Operand} {v : Value} (e : Ev l x v) : a.eval x = v := by
  cases e with
  | t k => simp [Act.eval, h.at_ _ _ k]
  | c k => exact k
  | f => rfl
  | g => rfl
theorem Env.keep {N : Nat} {D : List Deferred} {a : Act} {l l' : List (Nat × Value)} (h : Env N D a l) (k : Keep l l') : Env N D a l' := ⟨h.size, h.defers, fun t v e => h.at_ t v (k.lk e)⟩
theorem Env.lks {N : Nat} {D : List Deferred} {a : Act} {l l' : List (Nat × Value)} (h : Env N D a l) (k : Lks l l') : Env N D a l' := ⟨h.size, h.defers, fun t v e => h.at_ t v (k.lk e)⟩
theorem Env.put {N : Nat} {D : List Deferred} {a : Act} {l : List (Nat × Value)} (h : Env N D a l) {d : Nat} (v : Value) (hd : Nat.blt d N = true) (hn : nokey d l = true) : Env N D (a.put (some d) v) ((d, v) :: l) := by
  have hd' : d < a.tmps.size := by rw [h.size]; exact Nat.le_of_ble_eq_true hd
  refine ⟨by simp [Act.put, h.size], h.defers, fun t u e => ?_⟩
  cases e with
  | z => simp [Act.put, hd']
  | s e =>
    have hne := nokey_lk hn e
    simp only [Act.put]
    rw [Array.getElem?_setIfInBounds_ne (Ne.symm hne)]
    exact h.at_ _ _ e
theorem Env.put_none {N : Nat} {D : List Deferred} {a : Act} {l : List (Nat × Value)} (h : Env N D a l) (v : Value) : Env N D (a.put none v) l := h
theorem Env.skip {N : Nat} {D : List Deferred} {a : Act} {l : List (Nat × Value)} (h : Env N D a l) {d : Nat} (v : Value) (hn : nokey d l = true) : Env N D (a.put (some d) v) l := by
  refine ⟨by simp [Act.put, h.size], h.defers, fun t u e => ?_⟩
  have hne := nokey_lk hn e
  simp only [Act.put]
  rw [Array.getElem?_setIfInBounds_ne (Ne.symm hne)]
  exact h.at_ _ _ e

/-! ### What follows -/
inductive KI (O : Type) where
  | code (c : Code)
  | block (id : Nat)
  | fin (I : O → Act → World → Prop)
section
variable {O : Type} (P : Program) (r : Option Nat) (B : O → Exit → Act → World → Prop)
def KQ (out : O) : List (KI O) → Exit → Act → World → Prop
  | [] => B out
  | .code c :: ks => Exit.then (c.wpIn (fence r) 2 P (KQ out ks)) (KQ out ks)
  | .block id :: ks => Exit.inBlock id (KQ out ks)
  | .fin I :: ks => Exit.then (I out) (KQ out ks)
end
theorem KQ_ret {O : Type} {P : Program} {r : Option Nat} {B : O → Exit → Act → World → Prop} {out : O} {a : Act} {w : World} : ∀ {ks : List (KI O)}, KQ P r B out ks .ret a w = B out .ret a w
  | [] => rfl
  | .code _ :: ks => KQ_ret (ks := ks)
  | .block _ :: ks => KQ_ret (ks := ks)
  | .fin _ :: ks => KQ_ret (ks := ks)
theorem KQ_panic {O : Type} {P : Program} {r : Option Nat} {B : O → Exit → Act → World → Prop} {out : O} {a : Act} {w : World} {ch : List PanicEntry} : ∀ {ks : List (KI O)}, KQ P r B out ks (.panic ch) a w = B out (.panic ch) a w
  | [] => rfl
  | .code _ :: ks => KQ_panic (ks := ks)
  | .block _ :: ks => KQ_panic (ks := ks)
  | .fin _ :: ks => KQ_panic (ks := ks)

section
variable {O : Type} (P : Program) (N : Nat) (c : Cx) (B : O → Exit → Act → World → Prop) (ks : List (KI O)) (m : Option O)
def WL (ops : Array Oper) (rest : List Oper) (l : List (Nat × Value)) (L : List HE) : Prop :=
  ∀ out, m = some out → ∀ a w, Env N c.D a l → St c.F c.R0 c.w0 w L → wpListIn (fence c.rnd) 2 P ops (KQ P c.rnd B out ks) rest a w
def WC (x : Code) (l : List (Nat × Value)) (L : List HE) : Prop :=
  ∀ out, m = some out → ∀ a w, Env N c.D a l → St c.F c.R0 c.w0 w L → x.wpIn (fence c.rnd) 2 P (KQ P c.rnd B out ks) a w
/-- At an exit. -/
def WX (e : Exit) (l : List (Nat × Value)) (L : List HE) : Prop :=
  ∀ out, m = some out → ∀ a w, Env N c.D a l → St c.F c.R0 c.w0 w L → KQ P c.rnd B out ks e a w
end

section rules
variable {O : Type} {P : Program} {N : Nat} {c : Cx} {B : O → Exit → Act → World → Prop} {ks : List (KI O)} {m : Option O} {l : List (Nat × Value)} {L : List HE}

theorem cSeq {x y : Code} (h : WC P N c B (.code y :: ks) m x l L) : WC P N c B ks m (.seq x y) l L := fun out hm a w he hs => wpIn_seq (h out hm a w he hs)
theorem cBlock {id : Nat} {x : Code} (h : WC P N c B (.block id :: ks) m x l L) : WC P N c B ks m (.block id x) l L := fun out hm a w he hs => wpIn_block (h out hm a w he hs)
theorem cSkip (h : WX P N c B ks m .normal l L) : WC P N c B ks m .skip l L := fun out hm a w he hs => wpIn_skip (h out hm a w he hs)
theorem cRet (h : ∀ out, m = some out → ∀ a w, Env N c.D a l → St c.F c.R0 c.w0 w L → B out .ret a w) : WC P N c B ks m .ret l L := fun out hm a w he hs => wpIn_ret (by rw [KQ_ret]; exact h out hm a w he hs)
theorem cExit {id : Nat} (h : WX P N c B ks m (.exit id) l L) : WC P N c B ks m (.exit id) l L := fun out hm a w he hs => wpIn_exit (h out hm a w he hs)
theorem cRegion {id : Nat} {ol : List Oper} (h : WL P N c B ks m ol.toArray ol l L) : WC P N c B ks m (.region id ol.toArray false) l L := fun out hm a w he hs => wpIn_region_lit (h out hm a w he hs)
theorem lNil {ops : Array Oper} (h : WX P N c B ks m .normal l L) : WL P N c B ks m ops [] l L := fun out hm a w he hs => wpListIn_nil (h out hm a w he hs)
theorem xCode {y : Code} (h : WC P N c B ks m y l L) : WX P N c B (.code y :: ks) m .normal l L := fun out hm a w he hs => h out hm a w he hs
theorem xBlock {id : Nat} (h : WX P N c B ks m .normal l L) : WX P N c B (.block id :: ks) m .normal l L := fun out hm a w he hs => h out hm a w he hs
theorem xHit {id : Nat} (h : WX P N c B ks m .normal l L) : WX P N c B (.block id :: ks) m (.exit id) l L := fun out hm a w he hs => by
  show Exit.inBlock id (KQ P c.rnd B out ks) (.exit id) a w
  simp only [Exit.inBlock, if_true]
  exact h out hm a w he hs
theorem xMiss {id id' : Nat} (hne : Nat.beq id id' = false) (h : WX P N c B ks m (.exit id) l L) : WX P N c B (.block id' :: ks) m (.exit id) l L := fun out hm a w he hs => by
  show Exit.inBlock id' (KQ P c.rnd B out ks) (.exit id) a w
  simp only [Exit.inBlock]
  rw [if_neg (fun e => by subst e; rw [Nat.beq_refl] at hne; cases hne)]
  exact h out hm a w he hs
theorem xOver {id : Nat} {y : Code} (h : WX P N c B ks m (.exit id) l L) : WX P N c B (.code y :: ks) m (.exit id) l L := fun out hm a w he hs => h out hm a w he hs
theorem xOverF {id : Nat} {I : O → Act → World → Prop} (h : WX P N c B ks m (.exit id) l L) : WX P N c B (.fin I :: ks) m (.exit id) l L := fun out hm a w he hs => h out hm a w he hs

/-! #### The model's steps -/
theorem lCase {ops : Array Oper} {rest : List Oper} {p : Prop} [Decidable p] {A A' : Option O} (ht : p → WL P N c B ks A ops rest l L) (hf : ¬ p → WL P N c B ks A' ops rest l L) : WL P N c B ks (if p then A else A') ops rest l L := by
  by_cases hp : p
  · rw [if_pos hp]; exact ht hp
  · rw [if_neg hp]; exact hf hp
theorem cCase {x : Code} {p : Prop} [Decidable p] {A A' : Option O} (ht : p → WC P N c B ks A x l L) (hf : ¬ p → WC P N c B ks A' x l L) : WC P N c B ks (if p then A else A') x l L := by
  by_cases hp : p
  · rw [if_pos hp]; exact ht hp
  · rw [if_neg hp]; exact hf hp
/-- A guard: otherwise the model gives nothing. -/
theorem lGuard {ops : Array Oper} {rest : List Oper} {p : Prop} [Decidable p] {A : Option O} (ht : p → WL P N c B ks A ops rest l L) : WL P N c B ks (if p then A else none) ops rest l L :=
  lCase ht fun _ out hm => by cases hm
theorem cGuard {x : Code} {p : Prop} [Decidable p] {A : Option O} (ht : p → WC P N c B ks A x l L) : WC P N c B ks (if p then A else none) x l L :=
  cCase ht fun _ out hm => by cases hm
theorem cCond {x : Operand} {y z : Code} {p : Prop} [Decidable p] {A A' : Option O} (hx : Ev l x (.bool (decide p))) (ht : p → WC P N c B ks A y l L) (hf : ¬ p → WC P N c B ks A' z l L) :
    WC P N c B ks (if p then A else A') (.cond x y z) l L := by
  by_cases hp : p
  · rw [if_pos hp]
    exact fun out hm a w he hs => wpIn_cond_true (by rw [he.eval hx]; simp [hp]) (ht hp out hm a w he hs)
  · rw [if_neg hp]
    exact fun out hm a w he hs => wpIn_cond_false (by rw [he.eval hx]; simp [hp]) (hf hp out hm a w he hs)
theorem cCondB {x : Operand} {y z : Code} {b : Bool} {A A' : Option O} (hx : Ev l x (.bool b)) (ht : b = true → WC P N c B ks A y l L) (hf : b = false → WC P N c B ks A' z l L) :
    WC P N c B ks (if b = true then A else A') (.cond x y z) l L := by
  cases b with
  | true => rw [if_pos rfl]; exact fun out hm a w he hs => wpIn_cond_true (he.eval hx) (ht rfl out hm a w he hs)
  | false => rw [if_neg (by simp)]; exact fun out hm a w he hs => wpIn_cond_false (he.eval hx) (hf rfl out hm a w he hs)
theorem cCondT {x : Operand} {y z : Code} {b : Bool} (hx : Ev l x (.bool b)) (hb : b = true) (ht : WC P N c B ks m y l L) : WC P N c B ks m (.cond x y z) l L :=
  fun out hm a w he hs => wpIn_cond_true (by rw [he.eval hx, hb]) (ht out hm a w he hs)
theorem cCondF {x : Operand} {y z : Code} {b : Bool} (hx : Ev l x (.bool b)) (hb : b = false) (hf : WC P N c B ks m z l L) : WC P N c B ks m (.cond x y z) l L :=
  fun out hm a w he hs => wpIn_cond_false (by rw [he.eval hx, hb]) (hf out hm a w he hs)
theorem lEq {m' : Option O} {ops : Array Oper} {rest : List Oper} (e : m = m') (h : WL P N c B ks m' ops rest l L) : WL P N c B ks m ops rest l L := by subst e; exact h
theorem cEq {m' : Option O} {x : Code} (e : m = m') (h : WC P N c B ks m' x l L) : WC P N c B ks m x l L := by subst e; exact h
theorem lSub {ops : Array Oper} {rest : List Oper} {L' : List HE} (s : Sub L L') (h : WL P N c B ks m ops rest l L') : WL P N c B ks m ops rest l L := fun out hm a w he hs => h out hm a w he (s.st hs)
theorem cSub {x : Code} {L' : List HE} (s : Sub L L') (h : WC P N c B ks m x l L') : WC P N c B ks m x l L := fun out hm a w he hs => h out hm a w he (s.st hs)
theorem lKeep {ops : Array Oper} {rest : List Oper} {l' : List (Nat × Value)} (k : Keep l l') (h : WL P N c B ks m ops rest l' L) : WL P N c B ks m ops rest l L := fun out hm a w he hs => h out hm a w (he.keep k) hs
theorem cKeep {x : Code} {l' : List (Nat × Value)} (k : Keep l l') (h : WC P N c B ks m x l' L) : WC P N c B ks m x l L := fun out hm a w he hs => h out hm a w (he.keep k) hs
theorem xKeep {e : Exit} {l' : List (Nat × Value)} (k : Keep l l') (h : WX P N c B ks m e l' L) : WX P N c B ks m e l L := fun out hm a w he hs => h out hm a w (he.keep k) hs
theorem xSub {e : Exit} {L' : List HE} (s : Sub L L') (h : WX P N c B ks m e l L') : WX P N c B ks m e l L := fun out hm a w he hs => h out hm a w he (s.st hs)
theorem lSt {ops : Array Oper} {rest : List Oper} {L' : List HE} (s : ∀ w, St c.F c.R0 c.w0 w L → St c.F c.R0 c.w0 w L') (h : WL P N c B ks m ops rest l L') : WL P N c B ks m ops rest l L := fun out hm a w he hs => h out hm a w he (s w hs)
theorem cSt {x : Code} {L' : List HE} (s : ∀ w, St c.F c.R0 c.w0 w L → St c.F c.R0 c.w0 w L') (h : WC P N c B ks m x l L') : WC P N c B ks m x l L := fun out hm a w he hs => h out hm a w he (s w hs)
/-- What holds in each state is known of the model's data. -/
theorem lFact {ops : Array Oper} {rest : List Oper} {p : Prop} (s : ∀ w, St c.F c.R0 c.w0 w L → p) (h : p → WL P N c B ks m ops rest l L) : WL P N c B ks m ops rest l L := fun out hm a w he hs => h (s w hs) out hm a w he hs
theorem cFact {x : Code} {p : Prop} (s : ∀ w, St c.F c.R0 c.w0 w L → p) (h : p → WC P N c B ks m x l L) : WC P N c B ks m x l L := fun out hm a w he hs => h (s w hs) out hm a w he hs
end rules


/-! ### One operation -/
theorem semAt_of {P : Program} {r : Option Nat} {ρ : Operand → Value} {o : Oper} {w w' : World} {n : Next} (hr : (execOp ρ o).run P w = .ok n w') (hn : ∀ d, n ≠ .defer d) : o.semAt r ρ = execOp ρ o := by
  refine Oper.semAt_eq _ _ _ fun cc hc => ?_
  have h2 : execOp ρ o = (do pure (.defer (← resolve ρ cc o.type))) := by unfold execOp; rw [hc]
  rw [h2] at hr
  simp only [Sem.run_bind] at hr
  cases hq : (resolve ρ cc o.type).run P w with
  | ok d w1 =>
    rw [hq] at hr
    simp only [Result.andThen_ok, Sem.run_pure, Result.ok.injEq] at hr
    exact hn d hr.1.symm
  | halt x w1 => rw [hq] at hr; simp [Result.andThen] at hr
theorem opV {P : Program} {r : Option Nat} {o : Oper} {a : Act} {w w' : World} {v : Value} {K : Act → World → Prop} {Q : Exit → Act → World → Prop} (hr : (execOp a.eval o).run P w = .ok (.value v) w') (h : K (a.put o.dst v) w') : o.wpIn (fence r) 2 P a w K Q :=
  ⟨fun _ _ => trivial, by
    have : o.semAt (fence r).round a.eval = execOp a.eval o := semAt_of hr fun d e => by cases e
    rw [this, hr]; exact h⟩
theorem opS {P : Program} {r : Option Nat} {o : Oper} {a : Act} {w w' : World} {K : Act → World → Prop} {Q : Exit → Act → World → Prop} (hr : (execOp a.eval o).run P w = .ok .skip w') (h : K (a.put o.dst undef) w') : o.wpIn (fence r) 2 P a w K Q :=
  ⟨fun _ _ => trivial, by
    have : o.semAt (fence r).round a.eval = execOp a.eval o := semAt_of hr fun d e => by cases e
    rw [this, hr]; exact h⟩
theorem callsIn_of {P : Program} {r : Option Nat} {n : Nat} {f : FuncId} {args : Array Value} {w : World} {R : Ending → World → Prop} (h : Calls P f args w R) : CallsIn (fence r) n P f args w R := (callsIn_wide (n := n)).2 h
theorem opC {P : Program} {r : Option Nat} {o : Oper} {a : Act} {w w' : World} {f : FuncId} {args : Array Value} {K : Act → World → Prop} {Q : Exit → Act → World → Prop} (hr : (execOp a.eval o).run P w = .ok (.enter f args) w')
    (h : Calls P f args w' fun
      | .returned v, w'' => K (a.put o.dst v) w''
      | .panicked ch, w'' => Q (.panic ch) a w''
      | .outgrown, _ => LetsOut Q) : o.wpIn (fence r) 2 P a w K Q :=
  ⟨fun _ _ => trivial, by
    have : o.semAt (fence r).round a.eval = execOp a.eval o := semAt_of hr fun d e => by cases e
    rw [this, hr]
    exact ⟨fun h => (by cases h), callsIn_of h⟩⟩

/-! ### Ways that meet again -/
/-- At the meeting: the slots and the state, as functions of what was computed, and of values of no account. -/
def BJ {S X : Type} (N : Nat) (c : Cx) (lJ : S → X → List (Nat × Value)) (LJ : S → X → List HE) (e' : Exit) : S → Exit → Act → World → Prop :=
  fun s e a w => e = e' ∧ ∃ x, Env N c.D a (lJ s x) ∧ St c.F c.R0 c.w0 w (LJ s x)
theorem wpListIn_mono {F : Fence} {P : Program} {ops : Array Oper} {Q Q' : Exit → Act → World → Prop} (h : ∀ e a w, Q e a w → Q' e a w) : ∀ {rest : List Oper} {a : Act} {w : World}, wpListIn F 2 P ops Q rest a w → wpListIn F 2 P ops Q' rest a w
  | [], _, _, k => h _ _ _ k
  | o :: rest, a, w, k => by
    unfold wpListIn at *
    split
    · rename_i hw
      rw [if_pos hw] at k
      unfold Oper.wpIn at *
      refine ⟨k.1, ?_⟩
      have k := k.2
      generalize (o.semAt F.round a.eval).run P w = r at *
      cases r with
      | ok n w' =>
        cases n <;> simp only [Oper.uponIn] at k ⊢ <;>
          first
            | exact wpListIn_mono h k
            | exact ⟨k.1, CallsIn.mono k.2 (fun e w'' he => by
                cases e with
                | returned v => exact wpListIn_mono h he
                | panicked ch => exact h _ _ _ he
                | outgrown => obtain ⟨a', w', he⟩ := he; exact ⟨a', w', h _ _ _ he⟩)⟩
            | exact ⟨k.1, RoundIn.mono k.2 (fun e w'' he => by
                cases e with
                | returned v => exact wpListIn_mono h he
                | panicked ch => exact h _ _ _ he
                | outgrown => obtain ⟨a', w', he⟩ := he; exact ⟨a', w', h _ _ _ he⟩)⟩
            | exact ⟨k.1, RowsIn.mono k.2 (fun _ _ he => wpListIn_mono h he)⟩
      | halt x w' =>
        cases x <;> simp only [Oper.uponIn] at k ⊢
        all_goals first | exact h _ _ _ k | exact k.elim
    · rename_i hw
      rw [if_neg hw] at k
      exact ⟨k.1, wpListIn_mono h k.2⟩

section joins
variable {O : Type} {P : Program} {N : Nat} {c : Cx} {B : O → Exit → Act → World → Prop} {ks : List (KI O)} {l : List (Nat × Value)} {L : List HE}
theorem lJoin {S X : Type} {M1 : Option S} {M2 : S → Option O} {ops : Array Oper} {rest : List Oper} (lJ : S → X → List (Nat × Value)) (LJ : S → X → List HE)
    (h1 : WL P N c (BJ N c lJ LJ .normal) [] M1 ops rest l L) (h2 : ∀ s x, WX P N c B ks (M2 s) .normal (lJ s x) (LJ s x)) : WL P N c B ks (M1.bind M2) ops rest l L := by
  intro out hm a w he hs
  obtain ⟨s, e1, e2⟩ := Option.bind_eq_some_iff.1 hm
  refine wpListIn_mono ?_ (h1 s e1 a w he hs)
  rintro e a' w' ⟨rfl, x, he', hs'⟩
  exact h2 s x out e2 a' w' he' hs'
theorem cJoin {S X : Type} {M1 : Option S} {M2 : S → Option O} {x : Code} (lJ : S → X → List (Nat × Value)) (LJ : S → X → List HE)
    (h1 : WC P N c (BJ N c lJ LJ .normal) [] M1 x l L) (h2 : ∀ s x, WX P N c B ks (M2 s) .normal (lJ s x) (LJ s x)) : WC P N c B ks (M1.bind M2) x l L := by
  intro out hm a w he hs
  obtain ⟨s, e1, e2⟩ := Option.bind_eq_some_iff.1 hm
  refine wpIn_mono (h1 s e1 a w he hs) ?_
  rintro e a' w' ⟨rfl, x, he', hs'⟩
  exact h2 s x out e2 a' w' he' hs'
theorem xJoin {S X : Type} {lJ : S → X → List (Nat × Value)} {LJ : S → X → List HE} {e : Exit} (s : S) (x : X) (k : Lks l (lJ s x)) (r : Sub L (LJ s x)) : WX P N c (BJ N c lJ LJ e) [] (some s) e l L := by
  intro out hm a w he hs
  cases hm
  exact ⟨rfl, x, he.lks k, r.st hs⟩

/-! ### Loops -/
/-- A round's end. -/
theorem xRound {S X : Type} {m : Nat → S → Option O} {n : Nat} {lH : S → X → List (Nat × Value)} {LH : S → X → List HE} {I : O → Act → World → Prop}
    (hI : ∀ s x, ∀ out, m n s = some out → ∀ a w, Env N c.D a (lH s x) → St c.F c.R0 c.w0 w (LH s x) → I out a w) (s : S) (x : X) (k : Lks l (lH s x)) (r : Sub L (LH s x)) : WX P N c B (.fin I :: ks) (m n s) .normal l L :=
  fun out hm a w he hs => hI s x out hm a w (he.lks k) (r.st hs)
theorem cLoop {S X : Type} (m : Nat → S → Option O) (lH : S → X → List (Nat × Value)) (LH : S → X → List HE) {body : Code} (h0 : ∀ s, m 0 s = none)
    (hb : ∀ (n : Nat) (I : O → Act → World → Prop), (∀ s x, ∀ out, m n s = some out → ∀ a w, Env N c.D a (lH s x) → St c.F c.R0 c.w0 w (LH s x) → I out a w) →
      ∀ s x, WC P N c B [.fin I] (m (n + 1) s) body (lH s x) (LH s x)) : ∀ n s x, WC P N c B [] (m n s) (.loop body) (lH s x) (LH s x) := by
  have key : ∀ n, ∀ s x, ∀ out, m n s = some out → ∀ a w, Env N c.D a (lH s x) → St c.F c.R0 c.w0 w (LH s x) → Code.roundsIn (fence c.rnd) 2 P body (B out) n a w := by
    intro n
    induction n with
    | zero => intro s x out hm; rw [h0] at hm; cases hm
    | succ n ih =>
      intro s x out hm a w he hs
      have := hb n (fun out => Code.roundsIn (fence c.rnd) 2 P body (B out) n) ih s x out hm a w he hs
      rw [roundsIn_succ]
      exact this
  exact fun n s x out hm a w he hs => wpIn_loop_rounds n (key n s x out hm a w he hs)

/-- A loop in a block that it is left by: nothing else leaves it. -/
theorem cLoopB {S X S' X' : Type} (m : Nat → S → Option S') (lH : S → X → List (Nat × Value)) (LH : S → X → List HE) (lE : S' → X' → List (Nat × Value)) (LE : S' → X' → List HE) {M2 : S' → Option O} {id : Nat} {body : Code} (n : Nat) (s : S) (x : X)
    (k : Lks l (lH s x)) (r : Sub L (LH s x)) (h0 : ∀ s, m 0 s = none)
    (hb : ∀ (n : Nat) (I : S' → Act → World → Prop), (∀ s x, ∀ out, m n s = some out → ∀ a w, Env N c.D a (lH s x) → St c.F c.R0 c.w0 w (LH s x) → I out a w) →
      ∀ s x, WC P N c (BJ N c lE LE (.exit id)) [.fin I] (m (n + 1) s) body (lH s x) (LH s x))
    (h2 : ∀ s x, WX P N c B ks (M2 s) .normal (lE s x) (LE s x)) : WC P N c B ks ((m n s).bind M2) (.block id (.loop body)) l L := by
  intro out hm a w he hs
  obtain ⟨s', e1, e2⟩ := Option.bind_eq_some_iff.1 hm
  refine wpIn_block (wpIn_mono (cLoop m lH LH h0 hb n s x s' e1 a w (he.lks k) (r.st hs)) ?_)
  rintro e a' w' ⟨rfl, x', he', hs'⟩
  simp only [Exit.inBlock, if_true]
  exact h2 s' x' out e2 a' w' he' hs'

def onS {S O : Type} (M2 : S → Option O) : Sum S O → Option O
  | .inl s => M2 s
  | .inr o => some o
/-- .. or it is returned out of it. -/
def BJR {S X : Type} (N : Nat) (c : Cx) (B : O → Exit → Act → World → Prop) (lJ : S → X → List (Nat × Value)) (LJ : S → X → List HE) (e' : Exit) : Sum S O → Exit → Act → World → Prop
  | .inl s, e, a, w => e = e' ∧ ∃ x, Env N c.D a (lJ s x) ∧ St c.F c.R0 c.w0 w (LJ s x)
  | .inr o, e, a, w => (e = .ret ∨ ∃ ch, e = .panic ch) ∧ B o e a w
theorem xBreakR {S X : Type} {lJ : S → X → List (Nat × Value)} {LJ : S → X → List HE} {e : Exit} (s : S) (x : X) (k : Lks l (lJ s x)) (r : Sub L (LJ s x)) : WX P N c (BJR N c B lJ LJ e) [] (some (.inl s)) e l L := by
  intro out hm a w he hs
  cases hm
  exact ⟨rfl, x, he.lks k, r.st hs⟩
theorem cLoopR {S X S' X' : Type} (m : Nat → S → Option (Sum S' O)) (lH : S → X → List (Nat × Value)) (LH : S → X → List HE) (lE : S' → X' → List (Nat × Value)) (LE : S' → X' → List HE) {M2 : S' → Option O} {id : Nat} {body : Code} (n : Nat) (s : S) (x : X)
    (k : Lks l (lH s x)) (r : Sub L (LH s x)) (h0 : ∀ s, m 0 s = none)
    (hb : ∀ (n : Nat) (I : Sum S' O → Act → World → Prop), (∀ s x, ∀ out, m n s = some out → ∀ a w, Env N c.D a (lH s x) → St c.F c.R0 c.w0 w (LH s x) → I out a w) →
      ∀ s x, WC P N c (BJR N c B lE LE (.exit id)) [.fin I] (m (n + 1) s) body (lH s x) (LH s x))
    (h2 : ∀ s x, WX P N c B ks (M2 s) .normal (lE s x) (LE s x)) : WC P N c B ks ((m n s).bind (onS M2)) (.block id (.loop body)) l L := by
  intro out hm a w he hs
  obtain ⟨s', e1, e2⟩ := Option.bind_eq_some_iff.1 hm
  refine wpIn_block (wpIn_mono (cLoop m lH LH h0 hb n s x s' e1 a w (he.lks k) (r.st hs)) ?_)
  cases s' with
  | inl s' =>
    rintro e a' w' ⟨rfl, x', he', hs'⟩
    simp only [Exit.inBlock, if_true]
    exact h2 s' x' out e2 a' w' he' hs'
  | inr o =>
    cases e2
    rintro e a' w' ⟨rfl | ⟨ch, rfl⟩, hB⟩
    · simp only [Exit.inBlock]; rw [KQ_ret]; exact hB
    · simp only [Exit.inBlock]; rw [KQ_panic]; exact hB
/-- A loop that is left by return alone. -/
theorem cLoopO {S X : Type} (m : Nat → S → Option O) (lH : S → X → List (Nat × Value)) (LH : S → X → List HE) {body : Code} (n : Nat) (s : S) (x : X)
    (k : Lks l (lH s x)) (r : Sub L (LH s x)) (h0 : ∀ s, m 0 s = none) (hB : ∀ o e a w, B o e a w → e = .ret ∨ ∃ ch, e = .panic ch)
    (hb : ∀ (n : Nat) (I : O → Act → World → Prop), (∀ s x, ∀ out, m n s = some out → ∀ a w, Env N c.D a (lH s x) → St c.F c.R0 c.w0 w (LH s x) → I out a w) →
      ∀ s x, WC P N c B [.fin I] (m (n + 1) s) body (lH s x) (LH s x)) : WC P N c B ks (m n s) (.loop body) l L := by
  intro out hm a w he hs
  refine wpIn_mono (cLoop m lH LH h0 hb n s x out hm a w (he.lks k) (r.st hs)) ?_
  intro e a' w' hb
  rcases hB _ _ _ _ hb with rfl | ⟨ch, rfl⟩
  · rw [KQ_ret]; exact hb
  · rw [KQ_panic]; exact hb
end joins

/-! ### A function's contract -/
/-- Called with these, where this holds, it comes to what the model tells. -/
def ConE {O X : Type} (P : Program) (f : FuncId) (args : Array Value) (A : List HE) (m : Option O) (res : O → X → Ending) (Lo : O → X → List HE) : Prop :=
  ∀ out, m = some out → ∀ R h w, sat R A h → Fit R h w → Calls P f args w fun e w' => ∃ x, e = res out x ∧ St h R w w' (Lo out x)
/-- It never panics. -/
abbrev Con {O X : Type} (P : Program) (f : FuncId) (args : Array Value) (A : List HE) (m : Option O) (res : O → X → Value) (Lo : O → X → List HE) : Prop := ConE P f args A m (fun o x => .returned (res o x)) Lo

/-- What is asked at a function's end. -/
def BFE {O X : Type} (P : Program) (fn : Func) (c : Cx) (res : O → X → Ending) (Lo : O → X → List HE) : O → Exit → Act → World → Prop :=
  fun out e a w => (e = .ret ∨ e = .normal ∨ ∃ ch, e = .panic ch) ∧ bodyPostM (fence none) 2 P fn (fun en w' => ∃ x, en = res out x ∧ St c.F c.R0 c.w0 w' (Lo out x)) e a w
abbrev BF {O X : Type} (P : Program) (fn : Func) (c : Cx) (res : O → X → Value) (Lo : O → X → List HE) : O → Exit → Act → World → Prop := BFE P fn c (fun o x => .returned (res o x)) Lo

inductive Ins : Nat → List Value → List (Nat × Value) → Prop
  | n {i} : Ins i [] []
  | c {i v vs l} : Ins (i + 1) vs l → Ins i (v :: vs) ((i, v) :: l)
theorem Ins.lk {i : Nat} {vs : List Value} {l : List (Nat × Value)} (h : Ins i vs l) : ∀ {t v}, Lk l t v → i ≤ t ∧ vs[t - i]? = some v := by
  induction h with
  | n => intro t v h; cases h
  | @c i v vs l _ ih =>
    intro t u h
    cases h with
    | z => exact ⟨Nat.le_refl _, by simp⟩
    | s h =>
      obtain ⟨h1, h2⟩ := ih h
      refine ⟨by omega, ?_⟩
      rw [show t - i = (t - (i + 1)) + 1 by omega]
      simpa using h2
theorem con {O X : Type} {P : Program} {f : FuncId} {fn : Func} {code : Code} {args : List Value} {l : List (Nat × Value)} {A : List HE} {m : Option O} {res : O → X → Ending} {Lo : O → X → List HE}
    (hf : P.funcs[f]? = some fn) (hb : fn.body = some code) (N : Nat) (hN : fn.ntmps = N) (hl : Ins 0 args l) (hle : Nat.ble args.length N = true)
    (h : ∀ c : Cx, c.D = [] → c.rnd = none → WC P N c (BFE P fn c res Lo) [] m code l A) : ConE P f args.toArray A m res Lo := by
  intro out hm R ph w hs hfit
  refine (callsIn_wide (n := 2)).1 (callsIn_of_wp_marks (F := fence none) hf hb trivial ?_)
  have hlen : args.length ≤ N := by simpa using hle
  have := h ⟨[], none, ph, R, w⟩ rfl rfl out hm { tmps := args.toArray ++ Array.replicate (fn.ntmps - args.toArray.size) undef, defers := [] } w ⟨by simp [hN]; omega, rfl, fun t v k => by
    obtain ⟨_, h2⟩ := hl.lk k
    have h3 : t < args.length := (List.getElem?_eq_some_iff.1 h2).1
    simp only [Nat.sub_zero] at h2
    rw [Array.getElem?_append_left (by simpa using h3)]
    simpa using h2⟩ (St.start hs hfit)
  exact wpIn_mono this fun e a' w' h => h.2
end Go.Proofs.YtecipnjloenndaaDoor.SX
