/-
Maps from strings, that are held: made, written, read.
-/
import Derived.Test.YtecipnjloenndaaDoorSXm
import Derived.MapKept
set_option linter.unusedVariables false
set_option linter.unusedSimpArgs false
namespace Go.Proofs.YtecipnjloenndaaDoor.SX
open Go Go.RowKit

/-- A map's entries, in the order in which their keys came. -/
def mE {β : Type} (ve : β → Value) : Nat → List (List UInt8 × β) → List MapEntry
  | _, [] => []
  | j, (k, v) :: r => ⟨vS k, ve v, j⟩ :: mE ve (j + 1) r
def mapO {β : Type} (ve : β → Value) (ps : List (List UInt8 × β)) : Obj := .map (mE ve 0 ps).toArray ps.length
def mput {β : Type} : List (List UInt8 × β) → List UInt8 → β → List (List UInt8 × β)
  | [], k, v => [(k, v)]
  | (k', v') :: r, k, v => if k' = k then (k, v) :: r else (k', v') :: mput r k v
def mget {β : Type} : List (List UInt8 × β) → List UInt8 → Option β
  | [], _ => none
  | (k', v') :: r, k => if k' = k then some v' else mget r k
def mat {β : Type} : List (List UInt8 × β) → List UInt8 → Nat → Option (Nat × β)
  | [], _, _ => none
  | (k', v') :: r, k, i => if k' = k then some (i, v') else mat r k (i + 1)
section
variable {β : Type} {ve : β → Value}
theorem mE_length : ∀ (ps : List (List UInt8 × β)) (j : Nat), (mE ve j ps).length = ps.length
  | [], _ => rfl
  | (k, v) :: r, j => by simp [mE, mE_length r]
theorem mE_append : ∀ (ps qs : List (List UInt8 × β)) (j : Nat), mE ve j (ps ++ qs) = mE ve j ps ++ mE ve (j + ps.length) qs
  | [], qs, j => by simp [mE]
  | (k, v) :: r, qs, j => by simp [mE, mE_append r qs, Nat.add_assoc, Nat.add_comm 1]
theorem vS_beq (a b : List UInt8) : Instr.sameNow .string (vS a) (vS b) = some (decide (a = b)) := by
  show some ((⟨a.toArray⟩ : ByteArray) == ⟨b.toArray⟩) = _
  congr 1
  by_cases h : a = b
  · subst h; simp [MapKept.bytes_beq]
  · rw [decide_eq_false h]
    cases hh : ((⟨a.toArray⟩ : ByteArray) == ⟨b.toArray⟩) with
    | false => rfl
    | true =>
      have := (MapKept.bytes_beq _ _).1 hh
      injection this with h1
      exact absurd (by simpa using h1) h
theorem find_mat (k : List UInt8) : ∀ (ps : List (List UInt8 × β)) (j i : Nat), Instr.findNow .string (vS k) (mE ve j ps) i = some ((mat ps k i).map fun x => (x.1, ve x.2))
  | [], _, _ => rfl
  | (k', v') :: r, j, i => by
    simp only [mE, Instr.findNow, vS_beq, mat]
    by_cases h : k' = k
    · subst h; simp
    · have h' : ¬ k = k' := fun e => h e.symm
      simp [h, h', find_mat k r]
theorem mat_none {k : List UInt8} : ∀ {ps : List (List UInt8 × β)} {i : Nat}, mat ps k i = none → ∀ v, mput ps k v = ps ++ [(k, v)]
  | [], _, _, v => rfl
  | (k', v') :: r, i, h, v => by
    unfold mat at h
    by_cases hk : k' = k
    · rw [if_pos hk] at h; cases h
    · rw [if_neg hk] at h
      simp [mput, hk, mat_none h v]
theorem mat_some {k : List UInt8} : ∀ {ps : List (List UInt8 × β)} {i q : Nat} {u : β}, mat ps k i = some (q, u) → ∃ d, q = i + d ∧ d < ps.length ∧ (∀ j, ((mE ve j ps)[d]?).map (·.key) = some (vS k)) ∧ ∀ v j, mE ve j (mput ps k v) = (mE ve j ps).modify d fun e => { e with key := vS k, val := ve v }
  | [], _, _, _, h => by cases h
  | (k', v') :: r, i, q, u, h => by
    unfold mat at h
    by_cases hk : k' = k
    · rw [if_pos hk] at h
      cases h
      exact ⟨0, rfl, by simp, fun j => by simp [mE, hk], fun v j => by simp [mput, hk, mE]⟩
    · rw [if_neg hk] at h
      obtain ⟨d, h1, h2, h3, h4⟩ := mat_some h
      refine ⟨d + 1, by omega, by simp; omega, fun j => by simpa [mE] using h3 (j + 1), fun v j => ?_⟩
      simp [mput, hk, mE, h4]
theorem mput_length_some {k : List UInt8} : ∀ {ps : List (List UInt8 × β)} {i : Nat} {x : Nat × β}, mat ps k i = some x → ∀ v, (mput ps k v).length = ps.length
  | [], _, _, h, _ => by cases h
  | (k', v') :: r, i, x, h, v => by
    unfold mat at h
    by_cases hk : k' = k
    · simp [mput, hk]
    · rw [if_neg hk] at h
      simp [mput, hk, mput_length_some h v]
theorem mat_get {k : List UInt8} : ∀ (ps : List (List UInt8 × β)) (i : Nat), (mat ps k i).map (·.2) = mget ps k
  | [], _ => rfl
  | (k', v') :: r, i => by
    unfold mat mget
    by_cases hk : k' = k
    · simp [hk]
    · simp [hk, mat_get r]
end
section
variable {O : Type} {P : Program} {N : Nat} {c : Cx} {l : List (Nat × Value)} {L L' : List HE} {β : Type} {ve : β → Value}
/-- A new map. -/
theorem cMakeMap {t : TypeId} : Ch P N c (.makeMap t none) l L (fun b : Nat => .map (some b)) (fun b => .obj b (mapO ve []) :: L) := fun o a w ho he hs => by
  refine ⟨w.heap.size, w.alloc (.map #[] 0), ?_, hs.alloc (.map #[] 0) (.obj w.heap.size (.map #[] 0)) (fun R => ⟨rfl, trivial⟩)⟩
  simp [execOp, ho, Instr.makeMap]
theorem cMapUpdate {t kt et : TypeId} {x y z : Operand} {b : Nat} {ps : List (List UInt8 × β)} {k : List UInt8} {v : β} (ht : P.underlying t = some (.map kt et)) (hk : P.underlying kt = some .string) (hx : Ev l x (.map (some b))) (hy : Ev l y (vS k)) (hz : Ev l z (ve v)) (r : Upd (.obj b (mapO ve ps)) (.obj b (mapO ve (mput ps k v))) L L') :
    ChU P N c (.mapUpdate t x y z) l L L' := fun o a w ho he hs => by
  obtain ⟨L1, r1, _⟩ := r.rem
  have hb : w.heap[b]? = some (.map (mE ve 0 ps).toArray ps.length) := obj_hp hs r1
  refine ⟨w.putObj b (mapO ve (mput ps k v)), ?_, hs.setObj r trivial⟩
  have hky : MapKept.IsKey .string (vS k) := by unfold vS; simp [MapKept.IsKey]
  have h1 := find_mat (ve := ve) k ps 0 0
  have hrun : (Instr.mapUpdate t (.map (some b)) (vS k) (ve v)).run P w = .ok () (w.putObj b (mapO ve (mput ps k v))) := by
    cases hm : mat ps k 0 with
    | none =>
      rw [hm] at h1
      simp only [Option.map_none] at h1
      have e := mat_none hm v
      simp [Instr.mapUpdate, run_und ht, MapKept.run_getObj_map hb, MapKept.run_checkKey hk hky, MapKept.run_findKey hk h1, MapKept.run_setObj_map _ hb, Result.andThen]
      rw [e]
      simp [World.putObj, mapO, mE_append, mE]
    | some q =>
      obtain ⟨q, u⟩ := q
      rw [hm] at h1
      simp only [Option.map_some] at h1
      obtain ⟨d, e1, e2, e3, e4⟩ := mat_some (ve := ve) hm
      have hq : q = d := by omega
      subst hq
      have hkey : (((mE ve 0 ps).toArray[q]?).map (·.key)).getD (vS k) = vS k := by
        have := e3 0
        rw [List.getElem?_toArray, this]; rfl
      have hlen := mput_length_some hm v
      have h1' : Instr.findNow .string (vS k) (mE ve 0 ps).toArray.toList 0 = some (some (q, ve u)) := by simpa using h1
      simp only [Instr.mapUpdate, Sem.run_bind, run_und ht, Result.andThen_ok, MapKept.run_getObj_map hb, MapKept.run_checkKey hk hky, MapKept.run_findKey hk h1', hkey, MapKept.run_keyThatStays hky, MapKept.run_setObj_map _ hb]
      congr 1
      simp only [World.putObj, mapO]
      rw [e4, hlen]
      simp
  simp [execOp, ho, he.eval hx, he.eval hy, he.eval hz, hrun]
/-- What is read at a key; nothing there: the zero value. -/
theorem dLookup {t kt et : TypeId} {x y : Operand} {b : Nat} {ps : List (List UInt8 × β)} {k : List UInt8} {zv : Value} (r : Rem (.obj b (mapO ve ps)) L L') (ht : P.underlying t = some (.map kt et)) (hk : P.underlying kt = some .string) (hz : zeroT P et = some zv) (hx : Ev l x (.map (some b))) (hy : Ev l y (vS k)) :
    Rd P N c (.lookup t x y false) l L (((mget ps k).map ve).getD zv) := fun o a w ho he hs => by
  have hb : w.heap[b]? = some (.map (mE ve 0 ps).toArray ps.length) := obj_hp hs r
  have hky : MapKept.IsKey .string (vS k) := by unfold vS; simp [MapKept.IsKey]
  have h1 : Instr.findNow .string (vS k) (mE ve 0 ps).toArray.toList 0 = some ((mat ps k 0).map fun x => (x.1, ve x.2)) := by simpa using find_mat (ve := ve) k ps 0 0
  have hg := mat_get (k := k) ps 0
  have hrun : (Instr.lookup t (.map (some b)) (vS k) false).run P w = .ok (((mget ps k).map ve).getD zv) w := by
    rw [← hg]
    cases hm : mat ps k 0 with
    | none =>
      rw [hm] at h1
      simp only [Option.map_none] at h1
      simp [Instr.lookup, run_und ht, MapKept.run_getObj_map hb, MapKept.run_checkKey hk hky, MapKept.run_findKey hk h1, Result.andThen, run_zero hz]
    | some q =>
      rw [hm] at h1
      simp only [Option.map_some] at h1
      simp [Instr.lookup, run_und ht, MapKept.run_getObj_map hb, MapKept.run_checkKey hk hky, MapKept.run_findKey hk h1, Result.andThen]
  simp [execOp, ho, he.eval hx, he.eval hy, hrun]
theorem dLookupB {t kt et : TypeId} {x y : Operand} {b : Nat} {ps : List (List UInt8 × Bool)} {k : List UInt8} (r : Rem (.obj b (mapO Value.bool ps)) L L') (ht : P.underlying t = some (.map kt et)) (hk : P.underlying kt = some .string) (hz : zeroT P et = some (.bool false)) (hx : Ev l x (.map (some b))) (hy : Ev l y (vS k)) :
    Rd P N c (.lookup t x y false) l L (.bool ((mget ps k).getD false)) := by
  have h := dLookup (c := c) (N := N) r ht hk hz hx hy
  have : ((mget ps k).map Value.bool).getD (.bool false) = .bool ((mget ps k).getD false) := by cases mget ps k <;> rfl
  rw [this] at h
  exact h
theorem dLenMap {t kt et : TypeId} {x : Operand} {b : Nat} {ps : List (List UInt8 × β)} {at_ : Array TypeId} (r : Rem (.obj b (mapO ve ps)) L L') (h0 : at_[0]? = some t) (ht : P.underlying t = some (.map kt et)) (hx : Ev l x (.map (some b))) : Rd P N c (.call { callee := .builtin .len, args := #[x], argTypes := at_ }) l L (.int .i64 ps.length) := fun o a w ho he hs => by
  have hb : w.heap[b]? = some (.map (mE ve 0 ps).toArray ps.length) := obj_hp hs r
  simp [execOp, ho, resolve, invoke, builtin, he.eval hx, Builtin.len_, h0, run_und ht, goInt, MapKept.run_getObj_map hb, mE_length, Result.andThen]
end
end Go.Proofs.YtecipnjloenndaaDoor.SX
