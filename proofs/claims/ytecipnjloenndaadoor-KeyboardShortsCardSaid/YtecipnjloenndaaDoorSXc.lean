/-
The rules of single operations: those that only read.
-/
import Derived.Test.YtecipnjloenndaaDoorSXb
set_option linter.unusedVariables false
set_option linter.unusedSimpArgs false
namespace Go.Proofs.YtecipnjloenndaaDoor.SX
open Go Go.RowKit

/-! ### Values -/
def vB (x : UInt8) : Value := .int .u8 (x.toNat : Int)
def vS (s : List UInt8) : Value := .string ⟨s.toArray⟩
def toB (x : Int) : UInt8 := UInt8.ofNat (x % 256).toNat
/-- The address of a cell of an element of a slice. -/
def elp (v : Value) (n i o : Nat) : Value := match v with
  | .slice (some a) _ _ => .pointer (some (a.add (i * n + o)))
  | _ => undef
/-- A slice of a slice. -/
def slc (v : Value) (n lo hi : Nat) : Value := match v with
  | .slice a _ cap => .slice (if cap = lo then a else a.map (·.add (lo * n))) (hi - lo) (cap - lo)
  | _ => undef
def w64 (x : Int) : Int := IntKind.i64.wrap x
theorem w64_of {x : Int} (h : -9223372036854775808 ≤ x) (h' : x < 9223372036854775808) : w64 x = x := by
  simp only [w64, IntKind.wrap, IntKind.bits, IntKind.signed]; simp; omega

/-! ### Tables -/
def aggT (P : Program) (t : TypeId) : Option Bool := (P.underlying t).map fun d => match d with | .struct _ | .array _ _ => true | _ => false
/-- Of a struct's field: where its cells begin, how many they are, is it a struct or an array. -/
def fieldOf (P : Program) (t : TypeId) (i : Nat) : Option (Nat × Nat × Bool) := match P.underlying t with
  | some (.struct fs) => (fs[i]?).bind fun f => (P.info? f.type).bind fun inf => (aggT P f.type).map fun b => (f.offset, inf.size, b)
  | _ => none
def sizeT (P : Program) (t : TypeId) : Option Nat := (P.info? t).map (·.size)
theorem run_isAgg {P : Program} {t : TypeId} {b : Bool} (h : aggT P t = some b) (w : World) : (isAgg t).run P w = .ok b w := by
  unfold aggT at h
  cases hu : P.underlying t with
  | none => rw [hu] at h; cases h
  | some d =>
    rw [hu] at h
    simp only [Option.map_some, Option.some.injEq] at h
    simp only [isAgg, Sem.run_bind, run_underlying hu, Result.andThen_ok]
    cases d <;> simp_all
theorem run_sizeOf {P : Program} {t : TypeId} {n : Nat} (h : sizeT P t = some n) (w : World) : (sizeOf t).run P w = .ok n w := by
  unfold sizeT at h
  obtain ⟨i, hi, rfl⟩ := Option.map_eq_some_iff.1 h
  simp [sizeOf, typeInfo, hi]

/-! ### Operations that only read -/
section
variable (P : Program) (N : Nat) (c : Cx)
def Rd (op : Op) (l : List (Nat × Value)) (L : List HE) (v : Value) : Prop :=
  ∀ (o : Oper) (a : Act) (w : World), o.op = op → Env N c.D a l → St c.F c.R0 c.w0 w L → (execOp a.eval o).run P w = .ok (.value v) w
end
section
variable {O : Type} {P : Program} {N : Nat} {c : Cx} {B : O → Exit → Act → World → Prop} {ks : List (KI O)} {m : Option O} {l : List (Nat × Value)} {L : List HE}
  {ops : Array Oper} {rest : List Oper} {op : Op} {v : Value} {ty : TypeId} {p : String} {af : Array Edge}
theorem wanted_none {o : Oper} {f : Nat → Option Bool} (h : o.guard = none) : Region.wanted o f = true := by simp [Region.wanted, h]
theorem lRd {d : Nat} (h : Rd P N c op l L v) (hd : Nat.blt d N = true) (hn : nokey d l = true) (k : WL P N c B ks m ops rest ((d, v) :: l) L) : WL P N c B ks m ops (⟨some d, op, ty, p, af, none⟩ :: rest) l L := by
  intro out hm a w he hs
  refine wpListIn_plain rfl fun K hK => ?_
  refine opV (h _ a w rfl he hs) ?_
  exact hK _ _ (k out hm _ w (he.put v hd hn) hs)
/-- The slot held something else. -/
theorem lRdK {d : Nat} {l' : List (Nat × Value)} (h : Rd P N c op l L v) (kp : Keep l l') (hd : Nat.blt d N = true) (hn : nokey d l' = true) (k : WL P N c B ks m ops rest ((d, v) :: l') L) :
    WL P N c B ks m ops (⟨some d, op, ty, p, af, none⟩ :: rest) l L := by
  intro out hm a w he hs
  refine wpListIn_plain rfl fun K hK => ?_
  refine opV (h _ a w rfl he hs) ?_
  exact hK _ _ (k out hm _ w ((he.keep kp).put v hd hn) hs)
/-- What it yields is not wanted any more. -/
theorem lRdN (h : Rd P N c op l L v) {d : Option Nat} (hn : (match d with | some d => nokey d l | none => true) = true) (k : WL P N c B ks m ops rest l L) : WL P N c B ks m ops (⟨d, op, ty, p, af, none⟩ :: rest) l L := by
  intro out hm a w he hs
  refine wpListIn_plain rfl fun K hK => ?_
  refine opV (h _ a w rfl he hs) ?_
  refine hK _ _ (k out hm _ w ?_ hs)
  cases d with
  | none => exact he
  | some d => exact he.skip v hn
/-- A guarded operation that is done. -/
theorem lRdG {d j dj : Nat} {b b' : Bool} (hj : (ops[j]?).bind (·.dst) = some dj) (hg : Lk l dj (.bool b')) (hb : b' = b) (h : Rd P N c op l L v) (hd : Nat.blt d N = true) (hn : nokey d l = true) (k : WL P N c B ks m ops rest ((d, v) :: l) L) :
    WL P N c B ks m ops (⟨some d, op, ty, p, af, some (j, b)⟩ :: rest) l L := by
  subst hb
  intro out hm a w he hs
  refine wpListIn_step fun K hK => ?_
  have hw : Region.wanted ⟨some d, op, ty, p, af, some (j, b')⟩ (yielded ops a.tmps) = true := by simp [Region.wanted, yielded, hj, he.at_ _ _ hg]
  rw [if_pos hw]
  refine opV (h _ a w rfl he hs) ?_
  exact hK _ _ (k out hm _ w (he.put v hd hn) hs)
def isB : Value → Option Bool
  | .bool b => some b
  | _ => none
theorem nbT {b : Bool} (h : b = false) : isB (.bool b) ≠ some true := by subst h; simp [isB]
theorem nbF {b : Bool} (h : b = true) : isB (.bool b) ≠ some false := by subst h; simp [isB]
theorem nbU {b : Bool} : isB undef ≠ some b := by simp [isB, undef]
theorem not_wanted {a : Act} {D : List Deferred} {d : Option Nat} {j dj : Nat} {b : Bool} {u : Value} (hj : (ops[j]?).bind (·.dst) = some dj) (hg : Lk l dj u) (hu : isB u ≠ some b) (he : Env N D a l) :
    Region.wanted ⟨d, op, ty, p, af, some (j, b)⟩ (yielded ops a.tmps) = false := by
  simp only [Region.wanted, yielded, hj, he.at_ _ _ hg, Option.bind_some]
  cases u <;> simp_all [isB]
/-- A guarded operation that is passed over. -/
theorem lPass {d : Option Nat} {j dj : Nat} {b : Bool} {u : Value} (hj : (ops[j]?).bind (·.dst) = some dj) (hg : Lk l dj u) (hu : isB u ≠ some b) (hn : (match d with | some d => nokey d l | none => true) = true) (k : WL P N c B ks m ops rest l L) :
    WL P N c B ks m ops (⟨d, op, ty, p, af, some (j, b)⟩ :: rest) l L := by
  intro out hm a w he hs
  refine wpListIn_step fun K hK => ?_
  rw [if_neg (by rw [not_wanted hj hg hu he]; simp)]
  refine ⟨fun _ _ => trivial, ?_⟩
  refine hK _ _ (k out hm _ w ?_ hs)
  cases d with
  | none => exact he
  | some d => exact he.skip _ hn
/-- .. and others lean on it. -/
theorem lPassU {d : Nat} {j dj : Nat} {b : Bool} {u : Value} (hj : (ops[j]?).bind (·.dst) = some dj) (hg : Lk l dj u) (hu : isB u ≠ some b) (hd : Nat.blt d N = true) (hn : nokey d l = true) (k : WL P N c B ks m ops rest ((d, undef) :: l) L) :
    WL P N c B ks m ops (⟨some d, op, ty, p, af, some (j, b)⟩ :: rest) l L := by
  intro out hm a w he hs
  refine wpListIn_step fun K hK => ?_
  rw [if_neg (by rw [not_wanted hj hg hu he]; simp)]
  refine ⟨fun _ _ => trivial, ?_⟩
  exact hK _ _ (k out hm _ w (he.put _ hd hn) hs)
/-- A slot's value, spelled otherwise. -/
theorem lSlot {l' : List (Nat × Value)} (e : l = l') (h : WL P N c B ks m ops rest l' L) : WL P N c B ks m ops rest l L := by subst e; exact h
end

section
variable {P : Program} {N : Nat} {c : Cx} {l : List (Nat × Value)} {L : List HE}
theorem dMove {x : Operand} {v : Value} (h : Ev l x v) : Rd P N c (.move x) l L v := fun o a w ho he hs => by simp [execOp, ho, he.eval h]
theorem dAssign {x : Operand} {v : Value} (h : Ev l x v) : Rd P N c (.assign x) l L v := fun o a w ho he hs => by simp [execOp, ho, he.eval h]
theorem dPickT {x y z : Operand} {v : Value} {b : Bool} (hx : Ev l x (.bool b)) (hb : b = true) (h : Ev l y v) : Rd P N c (.pick x y z) l L v := fun o a w ho he hs => by subst hb; simp [execOp, ho, he.eval h, he.eval hx, asBool]
theorem dPickF {x y z : Operand} {v : Value} {b : Bool} (hx : Ev l x (.bool b)) (hb : b = false) (h : Ev l z v) : Rd P N c (.pick x y z) l L v := fun o a w ho he hs => by subst hb; simp [execOp, ho, he.eval h, he.eval hx, asBool]
/-- A binary operation by its run. -/
theorem dBin {b : BinOp} {t yt : TypeId} {x y : Operand} {u v r : Value} (hx : Ev l x u) (hy : Ev l y v) (hg : (u matches .int .. | .string _ | .bool _ | .pointer _ | .slice .. | .nilFunc | .func ..) = true) (h : ∀ w, (binOp b t u v).run P w = .ok r w) : Rd P N c (.binOp b t x y yt) l L r := fun o a w ho he hs => by
  have hq : ∀ w, (eqGuard b t x y u v).run P w = .ok () w := fun w => by
    unfold eqGuard
    cases b <;> cases u <;> simp at hg <;> simp
  simp [execOp, ho, he.eval hx, he.eval hy, hq, h]
theorem dAdd {k : IntKind} {t yt : TypeId} {x y : Operand} {a b : Int} (hx : Ev l x (.int k a)) (hy : Ev l y (.int k b)) : Rd P N c (.binOp .add t x y yt) l L (.int k (k.wrap (a + b))) := dBin hx hy rfl fun w => by simp [binOp, Op.intArith]
theorem dSub {k : IntKind} {t yt : TypeId} {x y : Operand} {a b : Int} (hx : Ev l x (.int k a)) (hy : Ev l y (.int k b)) : Rd P N c (.binOp .sub t x y yt) l L (.int k (k.wrap (a - b))) := dBin hx hy rfl fun w => by simp [binOp, Op.intArith]
theorem dMul {k : IntKind} {t yt : TypeId} {x y : Operand} {a b : Int} (hx : Ev l x (.int k a)) (hy : Ev l y (.int k b)) : Rd P N c (.binOp .mul t x y yt) l L (.int k (k.wrap (a * b))) := dBin hx hy rfl fun w => by simp [binOp, Op.intArith]
theorem dQuo {k : IntKind} {t yt : TypeId} {x y : Operand} {a b : Int} (hx : Ev l x (.int k a)) (hy : Ev l y (.int k b)) (hb : b ≠ 0) : Rd P N c (.binOp .quo t x y yt) l L (.int k (k.wrap (a.tdiv b))) := dBin hx hy rfl fun w => by simp [binOp, Op.intDiv, hb]
theorem dRem {k : IntKind} {t yt : TypeId} {x y : Operand} {a b : Int} (hx : Ev l x (.int k a)) (hy : Ev l y (.int k b)) (hb : b ≠ 0) : Rd P N c (.binOp .rem t x y yt) l L (.int k (a.tmod b)) := dBin hx hy rfl fun w => by simp [binOp, Op.intDiv, hb]
theorem dAddI {t yt : TypeId} {x y : Operand} {a b : Int} (hx : Ev l x (.int .i64 a)) (hy : Ev l y (.int .i64 b)) : Rd P N c (.binOp .add t x y yt) l L (.int .i64 (w64 (a + b))) := dAdd hx hy
theorem dSubI {t yt : TypeId} {x y : Operand} {a b : Int} (hx : Ev l x (.int .i64 a)) (hy : Ev l y (.int .i64 b)) : Rd P N c (.binOp .sub t x y yt) l L (.int .i64 (w64 (a - b))) := dSub hx hy
theorem dMulI {t yt : TypeId} {x y : Operand} {a b : Int} (hx : Ev l x (.int .i64 a)) (hy : Ev l y (.int .i64 b)) : Rd P N c (.binOp .mul t x y yt) l L (.int .i64 (w64 (a * b))) := dMul hx hy
theorem dQuoI {t yt : TypeId} {x y : Operand} {a b : Int} (hx : Ev l x (.int .i64 a)) (hy : Ev l y (.int .i64 b)) (hb : b ≠ 0) : Rd P N c (.binOp .quo t x y yt) l L (.int .i64 (w64 (a.tdiv b))) := dQuo hx hy hb
theorem dEqS {t yt : TypeId} {x y : Operand} {a b : List UInt8} (hx : Ev l x (vS a)) (hy : Ev l y (vS b)) : Rd P N c (.binOp .eql t x y yt) l L (.bool (decide (a = b))) := dBin hx hy rfl fun w => by
  have ha : (⟨a.toArray⟩ : ByteArray).toList = a := ByteArray.toList_mk _
  have hb : (⟨b.toArray⟩ : ByteArray).toList = b := ByteArray.toList_mk _
  simp only [vS, binOp, Op.stringOp, ha, hb]; simp; by_cases e : a = b <;> simp [e]
theorem dNeS {t yt : TypeId} {x y : Operand} {a b : List UInt8} (hx : Ev l x (vS a)) (hy : Ev l y (vS b)) : Rd P N c (.binOp .neq t x y yt) l L (.bool (decide (a ≠ b))) := dBin hx hy rfl fun w => by
  have ha : (⟨a.toArray⟩ : ByteArray).toList = a := ByteArray.toList_mk _
  have hb : (⟨b.toArray⟩ : ByteArray).toList = b := ByteArray.toList_mk _
  simp only [vS, binOp, Op.stringOp, ha, hb]; simp; by_cases e : a = b <;> simp [e]
/-- Two strings laid together, where they are not too long. -/
def cat (a b : List UInt8) : Option (List UInt8) := if a.length + b.length ≤ 9223372036854775807 then some (a ++ b) else none
theorem dCat {t yt : TypeId} {x y : Operand} {a b r : List UInt8} (hx : Ev l x (vS a)) (hy : Ev l y (vS b)) (hc : cat a b = some r) : Rd P N c (.binOp .add t x y yt) l L (vS r) := dBin hx hy rfl fun w => by
  unfold cat at hc
  split at hc
  · rename_i h
    cases hc
    have ha : (⟨a.toArray⟩ : ByteArray).size = a.length := by simp [ByteArray.size]
    have hb : (⟨b.toArray⟩ : ByteArray).size = b.length := by simp [ByteArray.size]
    have hab : (⟨a.toArray⟩ : ByteArray) ++ ⟨b.toArray⟩ = ⟨(a ++ b).toArray⟩ := by
      apply ByteArray.ext; simp
    simp only [vS, binOp, Op.stringOp, ha, hb, hab]
    rw [if_neg (by simp [IntKind.max, IntKind.signed, IntKind.bits]; omega)]
    rfl
  · cases hc
theorem dEqO {t yt : TypeId} {x y : Operand} {a b : Bool} (ht : P.underlying t = some .bool) (hx : Ev l x (.bool a)) (hy : Ev l y (.bool b)) : Rd P N c (.binOp .eql t x y yt) l L (.bool (decide (a = b))) := dBin hx hy rfl fun w => by
  have h : ∀ d, (Op.equalIn (d + 1) t (.bool a) (.bool b)).run P w = .ok (a == b) w := fun d => by
    simp only [Op.equalIn, Sem.run_bind, run_underlying ht, Result.andThen_ok, Sem.run_pure]
  simp only [binOp]
  simp [Op.equal, Op.maxDepth, h 9999]
  cases a <;> cases b <;> rfl
theorem dNeO {t yt : TypeId} {x y : Operand} {a b : Bool} (ht : P.underlying t = some .bool) (hx : Ev l x (.bool a)) (hy : Ev l y (.bool b)) : Rd P N c (.binOp .neq t x y yt) l L (.bool (decide (a ≠ b))) := dBin hx hy rfl fun w => by
  have h : ∀ d, (Op.equalIn (d + 1) t (.bool a) (.bool b)).run P w = .ok (a == b) w := fun d => by
    simp only [Op.equalIn, Sem.run_bind, run_underlying ht, Result.andThen_ok, Sem.run_pure]
  simp only [binOp]
  simp [Op.equal, Op.maxDepth, h 9999]
  cases a <;> cases b <;> rfl
theorem dPtrEqNil {t yt : TypeId} {e : TypeId} {x y : Operand} {a : Addr} (ht : P.underlying t = some (.pointer e)) (hx : Ev l x (.pointer (some a))) (hy : Ev l y (.pointer none)) : Rd P N c (.binOp .eql t x y yt) l L (.bool false) := dBin hx hy rfl fun w => by
  have h : ∀ d, (Op.equalIn (d + 1) t (.pointer (some a)) (.pointer none)).run P w = .ok false w := fun d => by
    simp only [Op.equalIn, Sem.run_bind, run_underlying ht, Result.andThen_ok, Sem.run_pure]
  simp only [binOp]
  simp [Op.equal, Op.maxDepth, h 9999]
theorem dPtrNeNil {t yt : TypeId} {e : TypeId} {x y : Operand} {a : Addr} (ht : P.underlying t = some (.pointer e)) (hx : Ev l x (.pointer (some a))) (hy : Ev l y (.pointer none)) : Rd P N c (.binOp .neq t x y yt) l L (.bool true) := dBin hx hy rfl fun w => by
  have h : ∀ d, (Op.equalIn (d + 1) t (.pointer (some a)) (.pointer none)).run P w = .ok false w := fun d => by
    simp only [Op.equalIn, Sem.run_bind, run_underlying ht, Result.andThen_ok, Sem.run_pure]
  simp only [binOp]
  simp [Op.equal, Op.maxDepth, h 9999]
theorem dEq {k : IntKind} {t yt : TypeId} {x y : Operand} {a b : Int} (hx : Ev l x (.int k a)) (hy : Ev l y (.int k b)) : Rd P N c (.binOp .eql t x y yt) l L (.bool (decide (a = b))) := dBin hx hy rfl fun w => by simp [binOp, Op.intCmp]; rfl
theorem dNe {k : IntKind} {t yt : TypeId} {x y : Operand} {a b : Int} (hx : Ev l x (.int k a)) (hy : Ev l y (.int k b)) : Rd P N c (.binOp .neq t x y yt) l L (.bool (decide (a ≠ b))) := dBin hx hy rfl fun w => by
  simp [binOp, Op.intCmp]; by_cases e : a = b <;> simp [e]
theorem dLt {k : IntKind} {t yt : TypeId} {x y : Operand} {a b : Int} (hx : Ev l x (.int k a)) (hy : Ev l y (.int k b)) : Rd P N c (.binOp .lss t x y yt) l L (.bool (decide (a < b))) := dBin hx hy rfl fun w => by simp [binOp, Op.intCmp]
theorem dLe {k : IntKind} {t yt : TypeId} {x y : Operand} {a b : Int} (hx : Ev l x (.int k a)) (hy : Ev l y (.int k b)) : Rd P N c (.binOp .leq t x y yt) l L (.bool (decide (a ≤ b))) := dBin hx hy rfl fun w => by simp [binOp, Op.intCmp]
theorem dGt {k : IntKind} {t yt : TypeId} {x y : Operand} {a b : Int} (hx : Ev l x (.int k a)) (hy : Ev l y (.int k b)) : Rd P N c (.binOp .gtr t x y yt) l L (.bool (decide (a > b))) := dBin hx hy rfl fun w => by simp [binOp, Op.intCmp]
theorem dGe {k : IntKind} {t yt : TypeId} {x y : Operand} {a b : Int} (hx : Ev l x (.int k a)) (hy : Ev l y (.int k b)) : Rd P N c (.binOp .geq t x y yt) l L (.bool (decide (a ≥ b))) := dBin hx hy rfl fun w => by simp [binOp, Op.intCmp]
/-! bytes -/
theorem u8i {a b : UInt8} : ((a.toNat : Int) = (b.toNat : Int)) ↔ a = b := by rw [Int.ofNat_inj, UInt8.toNat_inj]
theorem dEqB {t yt : TypeId} {x y : Operand} {a b : UInt8} (hx : Ev l x (vB a)) (hy : Ev l y (vB b)) : Rd P N c (.binOp .eql t x y yt) l L (.bool (decide (a = b))) := dBin hx hy rfl fun w => by
  simp only [vB, binOp, Op.intCmp]; simp [u8i]; by_cases e : a = b <;> simp [e, u8i]
theorem dNeB {t yt : TypeId} {x y : Operand} {a b : UInt8} (hx : Ev l x (vB a)) (hy : Ev l y (vB b)) : Rd P N c (.binOp .neq t x y yt) l L (.bool (decide (a ≠ b))) := dBin hx hy rfl fun w => by
  simp only [vB, binOp, Op.intCmp]; by_cases e : a = b <;> simp [e, u8i]
theorem dLtB {t yt : TypeId} {x y : Operand} {a b : UInt8} (hx : Ev l x (vB a)) (hy : Ev l y (vB b)) : Rd P N c (.binOp .lss t x y yt) l L (.bool (decide (a < b))) := dBin hx hy rfl fun w => by
  simp [vB, binOp, Op.intCmp, UInt8.lt_iff_toNat_lt]
theorem dLeB {t yt : TypeId} {x y : Operand} {a b : UInt8} (hx : Ev l x (vB a)) (hy : Ev l y (vB b)) : Rd P N c (.binOp .leq t x y yt) l L (.bool (decide (a ≤ b))) := dBin hx hy rfl fun w => by
  simp [vB, binOp, Op.intCmp, UInt8.le_iff_toNat_le]
theorem dGtB {t yt : TypeId} {x y : Operand} {a b : UInt8} (hx : Ev l x (vB a)) (hy : Ev l y (vB b)) : Rd P N c (.binOp .gtr t x y yt) l L (.bool (decide (a > b))) := dBin hx hy rfl fun w => by
  simp [vB, binOp, Op.intCmp, UInt8.lt_iff_toNat_lt]
theorem dGeB {t yt : TypeId} {x y : Operand} {a b : UInt8} (hx : Ev l x (vB a)) (hy : Ev l y (vB b)) : Rd P N c (.binOp .geq t x y yt) l L (.bool (decide (a ≥ b))) := dBin hx hy rfl fun w => by
  simp [vB, binOp, Op.intCmp, UInt8.le_iff_toNat_le]
theorem wrap_u8 (n : Int) : IntKind.u8.wrap n = n % 256 := by simp [IntKind.wrap, IntKind.bits, IntKind.signed]
theorem toB_toNat (n : Int) : ((toB n).toNat : Int) = n % 256 := by
  have h0 : 0 ≤ n % 256 := Int.emod_nonneg _ (by decide)
  have h1 : n % 256 < 256 := Int.emod_lt_of_pos _ (by decide)
  simp only [toB, UInt8.toNat_ofNat']
  omega
theorem wrap_toB (n : Int) : IntKind.u8.wrap n = ((toB n).toNat : Int) := by rw [wrap_u8, toB_toNat]
theorem dAddB {t yt : TypeId} {x y : Operand} {a b : UInt8} (hx : Ev l x (vB a)) (hy : Ev l y (vB b)) : Rd P N c (.binOp .add t x y yt) l L (vB (a + b)) := dBin hx hy rfl fun w => by
  simp only [vB, binOp, Op.intArith]; simp; rw [wrap_u8]
theorem dSubB {t yt : TypeId} {x y : Operand} {a b : UInt8} (hx : Ev l x (vB a)) (hy : Ev l y (vB b)) : Rd P N c (.binOp .sub t x y yt) l L (vB (a - b)) := dBin hx hy rfl fun w => by
  have ha := a.toNat_lt; have hb := b.toNat_lt
  simp only [vB, binOp, Op.intArith]; simp; rw [UInt8.toNat_sub, wrap_u8]; omega
theorem ofInt_u8 (a : UInt8) : BitVec.ofInt 8 (a.toNat : Int) = a.toBitVec := by
  rw [BitVec.ofInt_natCast]; apply BitVec.eq_of_toNat_eq; rw [BitVec.toNat_ofNat]; exact Nat.mod_eq_of_lt a.toNat_lt
theorem bits_back (r : UInt8) : IntKind.u8.wrap (r.toBitVec.toNat : Int) = (r.toNat : Int) := by
  have := r.toNat_lt
  rw [wrap_u8]; show ((r.toNat : Int)) % 256 = _; omega
theorem dAndB {t yt : TypeId} {x y : Operand} {a b : UInt8} (hx : Ev l x (vB a)) (hy : Ev l y (vB b)) : Rd P N c (.binOp .and t x y yt) l L (vB (a &&& b)) := dBin hx hy rfl fun w => by
  simp only [vB, binOp, Op.intBits]; simp [IntKind.bits, ofInt_u8]; exact bits_back (a &&& b)
theorem dOrB {t yt : TypeId} {x y : Operand} {a b : UInt8} (hx : Ev l x (vB a)) (hy : Ev l y (vB b)) : Rd P N c (.binOp .or t x y yt) l L (vB (a ||| b)) := dBin hx hy rfl fun w => by
  simp only [vB, binOp, Op.intBits]; simp [IntKind.bits, ofInt_u8]; exact bits_back (a ||| b)
theorem dXorB {t yt : TypeId} {x y : Operand} {a b : UInt8} (hx : Ev l x (vB a)) (hy : Ev l y (vB b)) : Rd P N c (.binOp .xor t x y yt) l L (vB (a ^^^ b)) := dBin hx hy rfl fun w => by
  simp only [vB, binOp, Op.intBits]; simp [IntKind.bits, ofInt_u8]; exact bits_back (a ^^^ b)
theorem dAndNotB {t yt : TypeId} {x y : Operand} {a b : UInt8} (hx : Ev l x (vB a)) (hy : Ev l y (vB b)) : Rd P N c (.binOp .andNot t x y yt) l L (vB (a &&& ~~~b)) := dBin hx hy rfl fun w => by
  simp only [vB, binOp, Op.intBits, IntKind.bits, ofInt_u8]; exact congrArg (fun z => Result.ok (Value.int .u8 z) w) (bits_back (a &&& ~~~b))
/-! whole numbers' bits -/
def iand (k : IntKind) (a b : Int) : Int := k.wrap ((BitVec.ofInt k.bits a &&& BitVec.ofInt k.bits b).toNat : Int)
def ior (k : IntKind) (a b : Int) : Int := k.wrap ((BitVec.ofInt k.bits a ||| BitVec.ofInt k.bits b).toNat : Int)
def ixor (k : IntKind) (a b : Int) : Int := k.wrap ((BitVec.ofInt k.bits a ^^^ BitVec.ofInt k.bits b).toNat : Int)
def iandn (k : IntKind) (a b : Int) : Int := k.wrap ((BitVec.ofInt k.bits a &&& ~~~ BitVec.ofInt k.bits b).toNat : Int)
theorem dAnd {k : IntKind} {t yt : TypeId} {x y : Operand} {a b : Int} (hx : Ev l x (.int k a)) (hy : Ev l y (.int k b)) : Rd P N c (.binOp .and t x y yt) l L (.int k (iand k a b)) := dBin hx hy rfl fun w => by simp [binOp, Op.intBits, iand]
theorem dOr {k : IntKind} {t yt : TypeId} {x y : Operand} {a b : Int} (hx : Ev l x (.int k a)) (hy : Ev l y (.int k b)) : Rd P N c (.binOp .or t x y yt) l L (.int k (ior k a b)) := dBin hx hy rfl fun w => by simp [binOp, Op.intBits, ior]
theorem dXor {k : IntKind} {t yt : TypeId} {x y : Operand} {a b : Int} (hx : Ev l x (.int k a)) (hy : Ev l y (.int k b)) : Rd P N c (.binOp .xor t x y yt) l L (.int k (ixor k a b)) := dBin hx hy rfl fun w => by simp [binOp, Op.intBits, ixor]
theorem dAndNot {k : IntKind} {t yt : TypeId} {x y : Operand} {a b : Int} (hx : Ev l x (.int k a)) (hy : Ev l y (.int k b)) : Rd P N c (.binOp .andNot t x y yt) l L (.int k (iandn k a b)) := dBin hx hy rfl fun w => by simp [binOp, Op.intBits, iandn]
theorem dShl {k k' : IntKind} {t yt : TypeId} {x y : Operand} {a b : Int} (hx : Ev l x (.int k a)) (hy : Ev l y (.int k' b)) (hb : 0 ≤ b) : Rd P N c (.binOp .shl t x y yt) l L (.int k (k.wrap (a * 2 ^ (min b.toNat k.bits)))) := dBin hx hy rfl fun w => by
  simp [binOp, Op.shift, show ¬ b < 0 by omega]
theorem dShr {k k' : IntKind} {t yt : TypeId} {x y : Operand} {a b : Int} (hx : Ev l x (.int k a)) (hy : Ev l y (.int k' b)) (hb : 0 ≤ b) : Rd P N c (.binOp .shr t x y yt) l L (.int k (a.fdiv (2 ^ (min b.toNat k.bits)))) := dBin hx hy rfl fun w => by
  simp [binOp, Op.shift, show ¬ b < 0 by omega]
/-- A byte, shifted to the right. -/
theorem dShrB {t yt : TypeId} {k' : IntKind} {x y : Operand} {a : UInt8} {n : Nat} (hx : Ev l x (vB a)) (hy : Ev l y (.int k' (n : Int))) (hn : n < 8) : Rd P N c (.binOp .shr t x y yt) l L (vB (a >>> UInt8.ofNat n)) := dBin hx hy rfl fun w => by
  have : (min (n : Int).toNat IntKind.u8.bits) = n := by simp [IntKind.bits]; omega
  simp only [vB, binOp, Op.shift, this]
  simp [show ¬ (n : Int) < 0 by omega]
  rw [Int.fdiv_eq_ediv_of_nonneg _ (by exact_mod_cast Nat.zero_le _), Nat.mod_eq_of_lt (by omega)]
  rw [← Int.natCast_shiftRight, Nat.shiftRight_eq_div_pow]
  exact_mod_cast rfl
theorem dNot {t : TypeId} {x : Operand} {b : Bool} (hx : Ev l x (.bool b)) : Rd P N c (.unOp .not t x) l L (.bool (!b)) := fun o a w ho he hs => by simp [execOp, ho, he.eval hx, Op.unary]
theorem dNotP {t : TypeId} {x : Operand} {q : Prop} [Decidable q] (hx : Ev l x (.bool (decide q))) : Rd P N c (.unOp .not t x) l L (.bool (decide (¬ q))) := fun o a w ho he hs => by simp [execOp, ho, he.eval hx, Op.unary]
theorem dNeg {k : IntKind} {t : TypeId} {x : Operand} {a : Int} (hx : Ev l x (.int k a)) : Rd P N c (.unOp .neg t x) l L (.int k (k.wrap (0 - a))) := fun o a' w ho he hs => by simp [execOp, ho, he.eval hx, Op.unary, Op.intArith]
theorem run_und {t : TypeId} {d : TypeDesc} (h : P.underlying t = some d) (w : World) : (underlying t).run P w = .ok d w := run_underlying h w
theorem dConv {k k' : IntKind} {s t : TypeId} {x : Operand} {a : Int} (hs : (P.underlying s).isSome = true) (ht : P.underlying t = some (.int k')) (hx : Ev l x (.int k a)) : Rd P N c (.convert s t x) l L (.int k' (k'.wrap a)) := fun o a' w ho he hst => by
  obtain ⟨d, hd⟩ := Option.isSome_iff_exists.1 hs
  simp [execOp, ho, he.eval hx, convert, run_und hd, run_und ht, Conv.intToInt]
theorem dConvB {k : IntKind} {s t : TypeId} {x : Operand} {a : UInt8} (hs : (P.underlying s).isSome = true) (ht : P.underlying t = some (.int k)) (hk : IntKind.wrap k 255 = 255) (hx : Ev l x (vB a)) : Rd P N c (.convert s t x) l L (.int k (a.toNat : Int)) := fun o a' w ho he hst => by
  obtain ⟨d, hd⟩ := Option.isSome_iff_exists.1 hs
  have ha := a.toNat_lt
  have : k.wrap (a.toNat : Int) = (a.toNat : Int) := by cases k <;> simp [IntKind.wrap, IntKind.bits, IntKind.signed] at hk ⊢ <;> omega
  simp [execOp, ho, he.eval hx, vB, convert, run_und hd, run_und ht, Conv.intToInt, this]
theorem dConvToB {k : IntKind} {s t : TypeId} {x : Operand} {a : Int} (hs : (P.underlying s).isSome = true) (ht : P.underlying t = some (.int .u8)) (hx : Ev l x (.int k a)) : Rd P N c (.convert s t x) l L (vB (toB a)) := fun o a' w ho he hst => by
  obtain ⟨d, hd⟩ := Option.isSome_iff_exists.1 hs
  simp [execOp, ho, he.eval hx, vB, convert, run_und hd, run_und ht, Conv.intToInt, wrap_toB]
theorem dConvStr {s t : TypeId} {x : Operand} {b : List UInt8} (hs : (P.underlying s).isSome = true) (ht : P.underlying t = some .string) (hx : Ev l x (vS b)) : Rd P N c (.convert s t x) l L (vS b) := fun o a' w ho he hst => by
  obtain ⟨d, hd⟩ := Option.isSome_iff_exists.1 hs
  simp [execOp, ho, he.eval hx, vS, convert, run_und hd, run_und ht]
theorem dExtract {x : Operand} {vs : Array Value} {i : Nat} {v : Value} (hx : Ev l x (.tuple vs)) (hi : vs[i]? = some v) : Rd P N c (.extract x i) l L v := fun o a' w ho he hst => by
  simp [execOp, ho, he.eval hx, Instr.extract, hi]
theorem dNil {x : Operand} {a : Addr} (hx : Ev l x (.pointer (some a))) : Rd P N c (.nilCheck x) l L (.pointer (some a)) := fun o a' w ho he hst => by simp [execOp, ho, he.eval hx]
theorem dMakeFunc {f : Fn} {xs ys : Array Operand} {us vs : Array Value} (hx : ∀ a, Env N c.D a l → xs.map a.eval = us) (hy : ∀ a, Env N c.D a l → ys.map a.eval = vs) : Rd P N c (.makeFunc f xs ys) l L (.func f us vs) := fun o a' w ho he hst => by
  simp [execOp, ho, hx _ he, hy _ he, Instr.makeFunc]
theorem dMakeIface {t : TypeId} {x : Operand} {v : Value} (ht : (match P.underlying t with | some (.interface _) => false | some _ => true | none => false) = true) (hx : Ev l x v) : Rd P N c (.makeInterface t x) l L (.iface t v) := fun o a' w ho he hst => by
  cases hu : P.underlying t with
  | none => rw [hu] at ht; cases ht
  | some d =>
    rw [hu] at ht
    simp only [execOp, ho, he.eval hx, Instr.makeInterface]
    cases d <;> simp_all [run_und hu]
end
end Go.Proofs.YtecipnjloenndaaDoor.SX
