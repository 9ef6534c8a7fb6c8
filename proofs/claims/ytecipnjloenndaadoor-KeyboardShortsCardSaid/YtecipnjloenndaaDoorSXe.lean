/-
The rules of operations that change memory.
-/
import Derived.Test.YtecipnjloenndaaDoorSXd
import Derived.Laws.BytesArg
set_option linter.unusedVariables false
set_option linter.unusedSimpArgs false
namespace Go.Proofs.YtecipnjloenndaaDoor.SX
open Go Go.RowKit

section
variable (P : Program) (N : Nat) (c : Cx)
/-- An operation that yields a value in another world. -/
def Ch {X : Type} (op : Op) (l : List (Nat × Value)) (L : List HE) (v : X → Value) (L' : X → List HE) : Prop :=
  ∀ (o : Oper) (a : Act) (w : World), o.op = op → Env N c.D a l → St c.F c.R0 c.w0 w L → ∃ x w', (execOp a.eval o).run P w = .ok (.value (v x)) w' ∧ St c.F c.R0 c.w0 w' (L' x)
def ChU (op : Op) (l : List (Nat × Value)) (L L' : List HE) : Prop :=
  ∀ (o : Oper) (a : Act) (w : World), o.op = op → Env N c.D a l → St c.F c.R0 c.w0 w L → ∃ w', (execOp a.eval o).run P w = .ok .skip w' ∧ St c.F c.R0 c.w0 w' L'
end
section
variable {O : Type} {P : Program} {N : Nat} {c : Cx} {B : O → Exit → Act → World → Prop} {ks : List (KI O)} {m : Option O} {l : List (Nat × Value)} {L : List HE}
  {ops : Array Oper} {rest : List Oper} {op : Op} {ty : TypeId} {p : String} {af : Array Edge} {X : Type}
theorem lCh {d : Nat} {v : X → Value} {L' : X → List HE} (h : Ch P N c op l L v L') (hd : Nat.blt d N = true) (hn : nokey d l = true) (k : ∀ x, WL P N c B ks m ops rest ((d, v x) :: l) (L' x)) : WL P N c B ks m ops (⟨some d, op, ty, p, af, none⟩ :: rest) l L := by
  intro out hm a w he hs
  obtain ⟨x, w', hr, hs'⟩ := h ⟨_, op, ty, p, af, none⟩ a w rfl he hs
  refine wpListIn_plain rfl fun K hK => ?_
  refine opV (hr) ?_
  exact hK _ _ (k x out hm _ w' (he.put _ hd hn) hs')
theorem lChN {v : X → Value} {L' : X → List HE} (h : Ch P N c op l L v L') {d : Option Nat} (hn : (match d with | some d => nokey d l | none => true) = true) (k : ∀ x, WL P N c B ks m ops rest l (L' x)) : WL P N c B ks m ops (⟨d, op, ty, p, af, none⟩ :: rest) l L := by
  intro out hm a w he hs
  obtain ⟨x, w', hr, hs'⟩ := h ⟨_, op, ty, p, af, none⟩ a w rfl he hs
  refine wpListIn_plain rfl fun K hK => ?_
  refine opV (hr) ?_
  refine hK _ _ (k x out hm _ w' ?_ hs')
  cases d with
  | none => exact he
  | some d => exact he.skip _ hn
theorem lChG {d j dj : Nat} {b b' : Bool} {v : X → Value} {L' : X → List HE} (hj : (ops[j]?).bind (·.dst) = some dj) (hg : Lk l dj (.bool b')) (hb : b' = b) (h : Ch P N c op l L v L') (hd : Nat.blt d N = true) (hn : nokey d l = true) (k : ∀ x, WL P N c B ks m ops rest ((d, v x) :: l) (L' x)) :
    WL P N c B ks m ops (⟨some d, op, ty, p, af, some (j, b)⟩ :: rest) l L := by
  subst hb
  intro out hm a w he hs
  obtain ⟨x, w', hr, hs'⟩ := h ⟨_, op, ty, p, af, some (j, b')⟩ a w rfl he hs
  refine wpListIn_step fun K hK => ?_
  have hw : Region.wanted ⟨some d, op, ty, p, af, some (j, b')⟩ (yielded ops a.tmps) = true := by simp [Region.wanted, yielded, hj, he.at_ _ _ hg]
  rw [if_pos hw]
  refine opV (hr) ?_
  exact hK _ _ (k x out hm _ w' (he.put _ hd hn) hs')
theorem lChU {L' : List HE} (h : ChU P N c op l L L') (k : WL P N c B ks m ops rest l L') : WL P N c B ks m ops (⟨none, op, ty, p, af, none⟩ :: rest) l L := by
  intro out hm a w he hs
  obtain ⟨w', hr, hs'⟩ := h ⟨_, op, ty, p, af, none⟩ a w rfl he hs
  refine wpListIn_plain rfl fun K hK => ?_
  refine opS hr ?_
  exact hK _ _ (k out hm _ w' he hs')
theorem Ch.of_rd {v : Value} (h : Rd P N c op l L v) : Ch (X := Unit) P N c op l L (fun _ => v) (fun _ => L) := fun o a w ho he hs => ⟨(), w, h o a w ho he hs, hs⟩
end

/-! ### New blocks -/
section
variable {P : Program} {N : Nat} {c : Cx} {l : List (Nat × Value)} {L : List HE} {α : Type} {k : Kind α} {xs : List α} {v : Value}
theorem St.blk {F R0 : PH} {w0 w : World} (hs : St F R0 w0 w L) (cs : List Value) (t : TypeId) : St F R0 w0 (w.alloc (.cells cs.toArray t)) (.blk w.heap.size cs t :: L) := hs.alloc _ _ fun _ => rfl
theorem run_newRow {w : World} (t : TypeId) (cs : Array Value) : (newRow t cs).run P w = .ok ⟨w.heap.size, 0, none⟩ (w.alloc (.cells cs t)) := by simp [newRow]
theorem cBox {t : TypeId} {x : Operand} {u : Value} {cs : List Value} (hx : Ev l x u) (hc : u.cells = cs.toArray) : Ch P N c (.box t x) l L (fun b => .pointer (some ⟨b, 0, none⟩)) (fun b => .blk b cs t :: L) := fun o a w ho he hs => by
  refine ⟨w.heap.size, _, ?_, hs.blk cs t⟩
  simp [execOp, ho, he.eval hx, Instr.box, newVar, hc, run_newRow]
/-- A zero value's cells. -/
def zeroT (P : Program) (t : TypeId) : Option Value := (P.info? t).bind (·.zero)
theorem run_zero {t : TypeId} {z : Value} (h : zeroT P t = some z) (w : World) : (zeroValue t).run P w = .ok z w := by
  unfold zeroT at h
  obtain ⟨i, hi, hz⟩ := Option.bind_eq_some_iff.1 h
  simp [zeroValue, typeInfo, hi, hz]
theorem cAlloc {t : TypeId} {z : Value} {cs : List Value} (hz : zeroT P t = some z) (hc : z.cells = cs.toArray) : Ch P N c (.alloc t) l L (fun b => .pointer (some ⟨b, 0, none⟩)) (fun b => .blk b cs t :: L) := fun o a w ho he hs => by
  refine ⟨w.heap.size, _, ?_, hs.blk cs t⟩
  simp [execOp, ho, Instr.alloc, newVar, run_zero hz, hc, run_newRow]

/-! ### Stores -/
inductive SetL : List Value → Nat → Value → List Value → Prop
  | z {x l v} : SetL (x :: l) 0 v (v :: l)
  | s {x l n v l'} : SetL l n v l' → SetL (x :: l) (n + 1) v (x :: l')
theorem SetL.eq {cs : List Value} {n : Nat} {u : Value} {cs' : List Value} (h : SetL cs n u cs') : cs' = cs.set n u ∧ n < cs.length := by
  induction h with
  | z => exact ⟨rfl, by simp⟩
  | s _ ih => exact ⟨by rw [ih.1]; rfl, by have := ih.2; simp; omega⟩
/-- The same assertions, one put in another's place. -/
inductive Upd : HE → HE → List HE → List HE → Prop
  | z {e e' L} : Upd e e' (e :: L) (e' :: L)
  | s {e e' x L L'} : Upd e e' L L' → Upd e e' (x :: L) (x :: L')
theorem Upd.rem {e e' : HE} {L L' : List HE} (h : Upd e e' L L') : ∃ L1, Rem e L L1 ∧ Rem e' L' L1 := by
  induction h with
  | z => exact ⟨_, .z, .z⟩
  | s _ ih => obtain ⟨L1, h1, h2⟩ := ih; exact ⟨_, .s h1, .s h2⟩
theorem St.upd {F R0 : PH} {w0 w w' : World} {e e' : HE} {L L' : List HE} (r : Upd e e' L L') (hs : St F R0 w0 w L) (H : ∀ L1, St F R0 w0 w (e :: L1) → St F R0 w0 w' (e' :: L1)) : St F R0 w0 w' L' := by
  obtain ⟨L1, r1, r2⟩ := r.rem
  exact (H L1 (hs.rem r1)).put r2

theorem run_storeVar_one {w : World} {t : TypeId} {b o : Nat} {u : Value} (ht : sizeT P t = some 1) (h1 : u.oneCell' = true) (hc : (w.cell? ⟨b, o, none⟩).isSome = true) (hf : w.frozen? ⟨b, o, none⟩ = false) :
    (storeVar t ⟨b, o, none⟩ u).run P w = .ok () (w.setCell ⟨b, o, none⟩ u) := by
  have hcells : u.cells = #[u] := by cases u <;> simp_all [Value.cells, Value.oneCell']
  have := run_storeCells_cells (P := P) b o [u] 0 w (by simpa using hc) (by simpa using hf) (by simpa using h1)
  simp [storeVar, run_sizeOf ht, hcells, this, World.setCells]
theorem run_storeVar_agg {w : World} {t : TypeId} {b o n : Nat} {us : List Value} (ht : sizeT P t = some n) (hn : us.length = n) (h1 : ∀ u ∈ us, u.oneCell' = true) (hc : ∀ j, j < us.length → (w.cell? ⟨b, o + j, none⟩).isSome = true) (hf : ∀ j, j < us.length → w.frozen? ⟨b, o + j, none⟩ = false) :
    (storeVar t ⟨b, o, none⟩ (.agg us.toArray)).run P w = .ok () (w.setCells b o us) := by
  have := run_storeCells_cells (P := P) b o us 0 w (by simpa using hc) (by simpa using hf) h1
  simp [storeVar, run_sizeOf ht, Value.cells, hn, this]
theorem setCells_same (b : Nat) : ∀ (vs : List Value) (o : Nat) (w : World), (w.setCells b o vs).os = w.os ∧ (w.setCells b o vs).tape = w.tape ∧ (w.setCells b o vs).output = w.output ∧ (w.setCells b o vs).heap.size = w.heap.size
  | [], _, _ => ⟨rfl, rfl, rfl, rfl⟩
  | v :: r, o, w => by
    obtain ⟨h1, h2, h3, h4⟩ := setCells_same b r (o + 1) (w.setCell ⟨b, o, none⟩ v)
    exact ⟨h1, h2, h3, h4.trans (by simp [World.setCell])⟩
theorem setCells_far {b : Nat} : ∀ (vs : List Value) (o : Nat) {w : World} (k : Nat), k ≠ b → hp (w.setCells b o vs) k = hp w k
  | [], _, _, _, _ => rfl
  | v :: r, o, w, k, h => by
    rw [World.setCells, setCells_far r (o + 1) k h]
    exact Below.heap_setCell w _ v k h
theorem hp_setCell {w : World} {b o : Nat} {cs : List Value} {t : TypeId} {fr : Nat × Nat} (h : hp w b = some (.cells cs.toArray t fr)) (u : Value) : hp (w.setCell ⟨b, o, none⟩ u) b = some (.cells (cs.set o u).toArray t fr) := by
  have h' : w.heap[b]? = some (.cells cs.toArray t fr) := h
  simp only [hp, World.setCell, Array.getElem?_modify, if_true, h']
  simp
theorem hp_setCells {b : Nat} {t : TypeId} {fr : Nat × Nat} : ∀ (vs : List Value) (o : Nat) (w : World) (pre old post : List Value), hp w b = some (.cells (pre ++ (old ++ post)).toArray t fr) → pre.length = o → old.length = vs.length →
    hp (w.setCells b o vs) b = some (.cells (pre ++ (vs ++ post)).toArray t fr)
  | [], o, w, pre, old, post, h, _, hl => by
    have : old = [] := List.eq_nil_of_length_eq_zero hl
    subst this; exact h
  | v :: r, o, w, pre, [], post, h, _, hl => by simp at hl
  | v :: r, o, w, pre, x :: old, post, h, ho, hl => by
    rw [World.setCells]
    have h1 := hp_setCell (o := o) h v
    have h2 : (pre ++ (x :: old ++ post)).set o v = (pre ++ [v]) ++ (old ++ post) := by
      rw [List.set_append_right _ _ (by omega), ho]; simp
    rw [h2] at h1
    have := hp_setCells r (o + 1) (w.setCell ⟨b, o, none⟩ v) (pre ++ [v]) old post h1 (by simp [ho]) (by simpa using hl)
    simpa using this
theorem St.store {F R0 : PH} {w0 w : World} {b o : Nat} {cs cs' : List Value} {t : TypeId} {u : Value} {L L' : List HE} (r : Upd (.blk b cs t) (.blk b cs' t) L L') (hs : St F R0 w0 w L) (hset : cs' = cs.set o u) : St F R0 w0 (w.setCell ⟨b, o, none⟩ u) L' :=
  hs.upd r fun L1 h1 => h1.modify fun R h hsem hf => by
    have hsem' : h = PH.one b (.cells cs.toArray t (0, 0)) := hsem
    subst hsem'
    subst hset
    exact ⟨b, _, fun i hi => PH.one_other _ hi, by rw [PH.one_same]; simp, rfl, by simp [World.setCell], hp_setCell (hf.h_le _ _ (PH.one_same _ _)) u, fun i hi => Below.heap_setCell w _ u i hi, rfl, rfl, rfl⟩
theorem uStore {t tb : TypeId} {x y : Operand} {b o : Nat} {cs cs' : List Value} {u : Value} {L' : List HE} (r : Upd (.blk b cs tb) (.blk b cs' tb) L L') (ht : sizeT P t = some 1) (h1 : u.oneCell' = true) (hset : SetL cs o u cs') (hx : Ev l x (.pointer (some ⟨b, o, none⟩))) (hy : Ev l y u) :
    ChU P N c (.store t x y) l L L' := fun op a w ho he hs => by
  obtain ⟨e1, e2⟩ := hset.eq
  obtain ⟨L1, r1, _⟩ := r.rem
  have hb := blk_hp hs r1
  refine ⟨_, ?_, hs.store r e1⟩
  have := run_storeVar_one (P := P) (w := w) (b := b) (o := o) ht h1 (by rw [cell_hp hb]; simp [e2]) (by rw [frozen_hp hb]; simp)
  simp [execOp, ho, he.eval hx, he.eval hy, Instr.storeAt, Instr.sureAddr, this]
/-- The same at a place that is told by a number. -/
theorem uStoreN {t tb : TypeId} {x y : Operand} {b o : Nat} {cs cs' : List Value} {u : Value} {L' : List HE} (r : Upd (.blk b cs tb) (.blk b cs' tb) L L') (ht : sizeT P t = some 1) (h1 : u.oneCell' = true) (hset : cs' = cs.set o u) (hlt : o < cs.length) (hx : Ev l x (.pointer (some ⟨b, o, none⟩))) (hy : Ev l y u) :
    ChU P N c (.store t x y) l L L' := fun op a w ho he hs => by
  obtain ⟨L1, r1, _⟩ := r.rem
  have hb := blk_hp hs r1
  refine ⟨_, ?_, hs.store r hset⟩
  have := run_storeVar_one (P := P) (w := w) (b := b) (o := o) ht h1 (by rw [cell_hp hb]; simp [hlt]) (by rw [frozen_hp hb]; simp)
  simp [execOp, ho, he.eval hx, he.eval hy, Instr.storeAt, Instr.sureAddr, this]
theorem uStoreA {t tb : TypeId} {x y : Operand} {b o sz : Nat} {cs cs' us : List Value} {L' : List HE} (r : Upd (.blk b cs tb) (.blk b cs' tb) L L') (ht : sizeT P t = some sz) (hl : us.length = sz) (h1 : ∀ u ∈ us, u.oneCell' = true)
    (hset : cs' = cs.take o ++ (us ++ cs.drop (o + us.length))) (hlt : o + us.length ≤ cs.length) (hx : Ev l x (.pointer (some ⟨b, o, none⟩))) (hy : Ev l y (.agg us.toArray)) : ChU P N c (.store t x y) l L L' := fun op a w ho he hs => by
  obtain ⟨L1, r1, _⟩ := r.rem
  have hb := blk_hp hs r1
  have hrun := run_storeVar_agg (P := P) (w := w) (b := b) (o := o) ht hl h1 (fun j hj => by rw [cell_hp hb]; simp; omega) (fun j hj => by rw [frozen_hp hb]; simp)
  refine ⟨w.setCells b o us, ?_, hs.upd r fun L1 hs1 => hs1.modify fun R h hsem hf => ?_⟩
  · simp [execOp, ho, he.eval hx, he.eval hy, Instr.storeAt, Instr.sureAddr, hrun]
  · have hsem' : h = PH.one b (.cells cs.toArray tb (0, 0)) := hsem
    subst hsem'
    obtain ⟨s1, s2, s3, s4⟩ := setCells_same b us o w
    refine ⟨b, _, fun i hi => PH.one_other _ hi, by rw [PH.one_same]; simp, rfl, s4, ?_, fun i hi => setCells_far us o i hi, s1, s2, s3⟩
    rw [hset]
    have e : cs = cs.take o ++ ((cs.drop o).take us.length ++ cs.drop (o + us.length)) := by
      conv => lhs; rw [← List.take_append_drop o cs, ← List.take_append_drop us.length (cs.drop o), List.drop_drop]
    refine hp_setCells us o w (cs.take o) ((cs.drop o).take us.length) _ ?_ (by simp; omega) (by simp; omega)
    rw [← e]; exact hb

/-! ### Slices that are held -/
theorem flatten_split {css : List (List Value)} {n : Nat} (hn : ∀ cs ∈ css, cs.length = n) : ∀ {i : Nat} {cs : List Value}, css[i]? = some cs → ∃ A B, css.flatten = A ++ (cs ++ B) ∧ A.length = i * n ∧ ∀ cs', cs'.length = n → (css.set i cs').flatten = A ++ (cs' ++ B) := by
  induction css with
  | nil => intro i cs h; simp at h
  | cons d css ih =>
    intro i cs h
    have hd := hn d (by simp)
    cases i with
    | zero => simp at h; subst h; exact ⟨[], css.flatten, by simp, by simp, fun cs' _ => by simp⟩
    | succ i =>
      obtain ⟨A, B, h1, h2, h3⟩ := ih (fun cs hc => hn cs (by simp [hc])) (by simpa using h)
      exact ⟨d ++ A, B, by simp [h1], by simp [hd, h2, Nat.succ_mul]; omega, fun cs' hc => by simp [h3 cs' hc]⟩
theorem ownStore {F R0 : PH} {w0 w : World} {t : TypeId} {i o : Nat} {y y' : α} {us : List Value} {L L1 L' : List HE} (r1 : Rem (.own v t k xs) L L1) (r2 : Rem (.own v t k (xs.set i y')) L' L1) (hs : St F R0 w0 w L) (hy : xs[i]? = some y)
    (hv : ∀ R h cs, sat R L1 h → k.rd R cs y → o + us.length ≤ cs.length ∧ k.rd R (cs.take o ++ (us ++ cs.drop (o + us.length))) y') :
    ∃ b p, elp v k.n i o = .pointer (some ⟨b, p, none⟩) ∧ (∀ j, j < us.length → (w.cell? ⟨b, p + j, none⟩).isSome = true) ∧ (∀ j, j < us.length → w.frozen? ⟨b, p + j, none⟩ = false) ∧ St F R0 w0 (w.setCells b p us) L' := by
  obtain ⟨R, h, hsem, ⟨hb, hsb, _⟩, hf, kk⟩ := (hs.rem r1).modify2
  rcases hsem with ⟨rfl, rfl, rfl⟩ | ⟨b, pre, css, post, cap, fr, rfl, a2, a3, a4, a5, a6, rfl⟩
  · simp at hy
  · obtain ⟨cs, hcs, hr⟩ := a2.get hy
    obtain ⟨q1, q2⟩ := hv R _ cs hsb hr
    obtain ⟨A, B, e1, e2, e3⟩ := flatten_split a2.lens hcs
    have hcl := k.len hr
    have hcl' := k.len q2
    have hbb : hp w b = some (.cells (pre ++ (css.flatten ++ post)).toArray t fr) := hf.h_le _ _ (PH.one_same _ _)
    have ecs : cs = cs.take o ++ ((cs.drop o).take us.length ++ cs.drop (o + us.length)) := by
      conv => lhs; rw [← List.take_append_drop o cs, ← List.take_append_drop us.length (cs.drop o), List.drop_drop]
    have hbb' : hp w b = some (.cells ((pre ++ A ++ cs.take o) ++ ((cs.drop o).take us.length ++ (cs.drop (o + us.length) ++ B ++ post))).toArray t fr) := by
      rw [hbb]
      have : pre ++ (css.flatten ++ post) = (pre ++ A ++ cs.take o) ++ ((cs.drop o).take us.length ++ (cs.drop (o + us.length) ++ B ++ post)) := by
        rw [e1]
        conv => lhs; rw [ecs]
        simp only [List.append_assoc]
      rw [this]
    have hlen : (pre ++ (css.flatten ++ post)).length = pre.length + (A.length + (cs.length + B.length) + post.length) := by simp [e1]; omega
    refine ⟨b, pre.length + (i * k.n + o), by simp only [elp, add_none], fun j hj => ?_, fun j hj => ?_, St.put r2 ?_⟩
    · rw [cell_hp hbb, List.getElem?_toArray, List.getElem?_eq_getElem (by rw [hlen]; omega)]; rfl
    · rw [frozen_hp hbb]
      have := a6 (pre.length + (i * k.n + o) + j) (by rw [hlen]; omega)
      simp; omega
    · obtain ⟨s1, s2, s3, s4⟩ := setCells_same b us (pre.length + (i * k.n + o)) w
      have hnew := hp_setCells us (pre.length + (i * k.n + o)) w (pre ++ A ++ cs.take o) _ _ hbb' (by simp [e2]; omega) (by simp; omega)
      have hfin : (pre ++ A ++ cs.take o) ++ (us ++ (cs.drop (o + us.length) ++ B ++ post)) = pre ++ ((css.set i (cs.take o ++ (us ++ cs.drop (o + us.length)))).flatten ++ post) := by
        rw [e3 _ (by omega)]; simp only [List.append_assoc]
      rw [hfin] at hnew
      refine kk _ _ b _ (fun i hi => PH.one_other _ hi) (by rw [PH.one_same]; simp) (.inr ⟨b, pre, css.set i (cs.take o ++ (us ++ cs.drop (o + us.length))), post, cap, fr, by simp, a2.set q2 i, by simpa using a3, a4, by simpa using a5, ?_, rfl⟩) s4 hnew (fun i hi => setCells_far us _ i hi) s1 s2 s3
      have : (pre ++ ((css.set i (cs.take o ++ (us ++ cs.drop (o + us.length)))).flatten ++ post)).length = (pre ++ (css.flatten ++ post)).length := by
        rw [← hfin, hlen]; simp; omega
      rw [this]; exact a6
/-- One cell of an element is stored. -/
theorem uStoreE {t te : TypeId} {x y : Operand} {i o : Nat} {z z' : α} {u : Value} {L1 L' : List HE} (r1 : Rem (.own v te k xs) L L1) (r2 : Rem (.own v te k (xs.set i z')) L' L1) (ht : sizeT P t = some 1) (h1 : u.oneCell' = true) (hx : Ev l x (elp v k.n i o)) (hy : Ev l y u) (hz : xs[i]? = some z)
    (hv : ∀ R cs, k.rd R cs z → o < cs.length ∧ k.rd R (cs.set o u) z') : ChU P N c (.store t x y) l L L' := fun op a w ho he hs => by
  obtain ⟨b, p, e1, e2, e3, e4⟩ := ownStore (us := [u]) (o := o) r1 r2 hs hz fun R h cs _ hr => by
    obtain ⟨h1, h2⟩ := hv R cs hr
    refine ⟨by simp; omega, ?_⟩
    rw [List.set_eq_take_append_cons_drop, if_pos h1] at h2
    simpa using h2
  have hx' := he.eval hx
  rw [e1] at hx'
  refine ⟨_, ?_, e4⟩
  have := run_storeVar_one (P := P) (w := w) (b := b) (o := p) ht h1 (by simpa using e2 0 (by simp)) (by simpa using e3 0 (by simp))
  simp [execOp, ho, hx', he.eval hy, Instr.storeAt, Instr.sureAddr, this, World.setCells]
/-- An element, or a part of it, is stored. -/
theorem uStoreEA {t te : TypeId} {x y : Operand} {i o sz : Nat} {z z' : α} {us : List Value} {L1 L' : List HE} (r1 : Rem (.own v te k xs) L L1) (r2 : Rem (.own v te k (xs.set i z')) L' L1) (ht : sizeT P t = some sz) (hl : us.length = sz) (h1 : ∀ u ∈ us, u.oneCell' = true) (hx : Ev l x (elp v k.n i o)) (hy : Ev l y (.agg us.toArray)) (hz : xs[i]? = some z)
    (hv : ∀ R h cs, sat R L1 h → k.rd R cs z → o + us.length ≤ cs.length ∧ k.rd R (cs.take o ++ (us ++ cs.drop (o + us.length))) z') : ChU P N c (.store t x y) l L L' := fun op a w ho he hs => by
  obtain ⟨b, p, e1, e2, e3, e4⟩ := ownStore r1 r2 hs hz hv
  have hx' := he.eval hx
  rw [e1] at hx'
  refine ⟨_, ?_, e4⟩
  have := run_storeVar_agg (P := P) (w := w) (b := b) (o := p) ht hl h1 e2 e3
  simp [execOp, ho, hx', he.eval hy, Instr.storeAt, Instr.sureAddr, this]
end
end Go.Proofs.YtecipnjloenndaaDoor.SX
