/-
The rules of single operations on memory.
-/
import Derived.Test.YtecipnjloenndaaDoorSXc
set_option linter.unusedVariables false
set_option linter.unusedSimpArgs false
namespace Go.Proofs.YtecipnjloenndaaDoor.SX
open Go Go.RowKit

def ix {α : Type} (xs : List α) (i : Int) : Option α := if 0 ≤ i then xs[i.toNat]? else none
theorem ix_some {α : Type} {xs : List α} {i : Int} {y : α} (h : ix xs i = some y) : 0 ≤ i ∧ xs[i.toNat]? = some y ∧ i < xs.length := by
  unfold ix at h
  split at h
  · rename_i h0
    refine ⟨h0, h, ?_⟩
    have := (List.getElem?_eq_some_iff.1 h).1
    omega
  · cases h
/-- A part of a list, where its bounds are right. -/
def sub {α : Type} (xs : List α) (lo hi : Int) : Option (List α) := if 0 ≤ lo ∧ lo ≤ hi ∧ hi ≤ xs.length then some ((xs.take hi.toNat).drop lo.toNat) else none
theorem sub_some {α : Type} {xs : List α} {lo hi : Int} {y : List α} (h : sub xs lo hi = some y) : 0 ≤ lo ∧ lo ≤ hi ∧ hi ≤ xs.length ∧ y = (xs.take hi.toNat).drop lo.toNat := by
  unfold sub at h
  split at h
  · rename_i h0; cases h; exact ⟨h0.1, h0.2.1, h0.2.2, rfl⟩
  · cases h

/-! ### Slices that are read -/
def kSl {α : Type} (k : Kind α) : Kind (List α) where
  n := 1
  rd R cs xs := ∃ A cap, cs = [.slice A xs.length cap] ∧ xs.length ≤ cap ∧ cap ≤ maxLen ∧
    (xs = [] ∨ ∃ b off css cells t fr, A = some ⟨b, off, none⟩ ∧ All2 (k.rd R) css xs ∧ R b = some (.cells cells t fr) ∧ ∀ j u, css.flatten[j]? = some u → cells[off + j]? = some u)
  mono {R R' cs xs} hR h := by
    obtain ⟨A, cap, h1, h2, h3, h4⟩ := h
    refine ⟨A, cap, h1, h2, h3, h4.imp id ?_⟩
    rintro ⟨b, off, css, cells, t, fr, e1, e2, e3, e4⟩
    exact ⟨b, off, css, cells, t, fr, e1, e2.imp fun _ _ h => Kind.mono _ hR h, hR _ _ e3, e4⟩
  len {R cs xs} h := by obtain ⟨A, cap, rfl, _⟩ := h; rfl
  one {R cs xs} h := by
    obtain ⟨A, cap, rfl, _⟩ := h
    intro c hc
    simp at hc
    subst hc
    rfl

/-- In this world the value is a slice of these. -/
def SlAt {α : Type} (R : PH) (w : World) (v : Value) (k : Kind α) (xs : List α) : Prop :=
  ∃ A cap, v = .slice A xs.length cap ∧ xs.length ≤ cap ∧ cap ≤ maxLen ∧
    (xs = [] ∨ ∃ b off css cells t fr, A = some ⟨b, off, none⟩ ∧ All2 (k.rd R) css xs ∧ hp w b = some (.cells cells t fr) ∧ ∀ j u, css.flatten[j]? = some u → cells[off + j]? = some u)
/-- Wherever these hold, the value is a slice of these. -/
def SlE {α : Type} (c : Cx) (L : List HE) (v : Value) (k : Kind α) (xs : List α) : Prop := ∀ w, St c.F c.R0 c.w0 w L → ∃ R, SlAt R w v k xs
theorem slRo {α : Type} {c : Cx} {L L' : List HE} {v : Value} {k : Kind α} {xs : List α} (r : Rem (.ro (kSl k) [v] xs) L L') : SlE c L v k xs := fun w hs => by
  obtain ⟨R, h, ⟨_, A, cap, h1, h2, h3, h4⟩, hf, _⟩ := (hs.rem r).cons_frame
  cases h1
  refine ⟨R, A, cap, rfl, h2, h3, h4.imp id ?_⟩
  rintro ⟨b, off, css, cells, t, fr, e1, e2, e3, e4⟩
  exact ⟨b, off, css, cells, t, fr, e1, e2, hf.R_le _ _ e3, e4⟩
theorem slOwn {α : Type} {c : Cx} {L L' : List HE} {v : Value} {t : TypeId} {k : Kind α} {xs : List α} (r : Rem (.own v t k xs) L L') : SlE c L v k xs := fun w hs => by
  obtain ⟨R, h, hsem, hf, _⟩ := (hs.rem r).cons_frame
  rcases hsem with ⟨rfl, rfl, rfl⟩ | ⟨b, pre, css, post, cap, fr, rfl, h2, h3, h4, h5, h6, rfl⟩
  · exact ⟨R, none, 0, rfl, Nat.le_refl _, Nat.zero_le _, .inl rfl⟩
  · refine ⟨R, _, cap, rfl, h3, h4, .inr ⟨b, pre.length, css, _, t, fr, rfl, h2, hf.h_le _ _ (PH.one_same _ _), fun j u hj => ?_⟩⟩
    have hlt := (List.getElem?_eq_some_iff.1 hj).1
    simp only [List.getElem?_toArray]
    rw [List.getElem?_append_right (by omega), Nat.add_sub_cancel_left, List.getElem?_append_left hlt]
    exact hj

theorem add_none (b p k : Nat) : (⟨b, p, none⟩ : Addr).add k = ⟨b, p + k, none⟩ := by
  unfold Addr.add; split <;> simp_all
theorem cell_hp {w : World} {b : Nat} {cs : Array Value} {t : TypeId} {fr : Nat × Nat} (h : hp w b = some (.cells cs t fr)) (o : Nat) : w.cell? ⟨b, o, none⟩ = cs[o]? := by
  have h' : w.heap[b]? = some (.cells cs t fr) := h
  simp [World.cell?, h']
theorem frozen_hp {w : World} {b : Nat} {cs : Array Value} {t : TypeId} {fr : Nat × Nat} (h : hp w b = some (.cells cs t fr)) (o : Nat) : w.frozen? ⟨b, o, none⟩ = (decide (fr.1 ≤ o) && decide (o < fr.2)) := by
  have h' : w.heap[b]? = some (.cells cs t fr) := h
  simp [World.frozen?, h']

/-- The cell of a list of lists. -/
theorem flatten_get {css : List (List Value)} {n : Nat} (hn : ∀ cs ∈ css, cs.length = n) : ∀ {i : Nat} {cs : List Value} {o : Nat} {u : Value}, css[i]? = some cs → cs[o]? = some u → css.flatten[i * n + o]? = some u := by
  induction css with
  | nil => intro i cs o u h; simp at h
  | cons d css ih =>
    intro i cs o u h hu
    have hd := hn d (by simp)
    cases i with
    | zero =>
      simp at h; subst h
      have := (List.getElem?_eq_some_iff.1 hu).1
      simp only [List.flatten_cons, Nat.zero_mul, Nat.zero_add]
      rw [List.getElem?_append_left this]; exact hu
    | succ i =>
      simp only [List.flatten_cons]
      rw [List.getElem?_append_right (by rw [hd, Nat.succ_mul]; omega), hd, show (i + 1) * n + o - n = i * n + o by rw [Nat.succ_mul]; omega]
      exact ih (fun cs hc => hn cs (by simp [hc])) (by simpa using h) hu
theorem All2.lens {α : Type} {k : Kind α} {R : PH} {css : List (List Value)} {xs : List α} (h : All2 (k.rd R) css xs) : ∀ cs ∈ css, cs.length = k.n := by
  induction h with
  | nil => intro cs hc; cases hc
  | cons h _ ih => intro cs hc; cases hc with
    | head => exact k.len h
    | tail _ hc => exact ih cs hc
theorem SlAt.elem {α : Type} {R : PH} {w : World} {v : Value} {k : Kind α} {xs : List α} (h : SlAt R w v k xs) {i : Nat} {y : α} (hy : xs[i]? = some y) :
    ∃ b off cs cells t fr, (∀ o, elp v k.n i o = .pointer (some ⟨b, off + o, none⟩)) ∧ k.rd R cs y ∧ hp w b = some (.cells cells t fr) ∧ ∀ j u, cs[j]? = some u → cells[off + j]? = some u := by
  obtain ⟨A, cap, rfl, h1, h2, rfl | ⟨b, off, css, cells, t, fr, rfl, h3, h4, h5⟩⟩ := h
  · simp at hy
  · obtain ⟨cs, hcs, hr⟩ := h3.get hy
    refine ⟨b, off + i * k.n, cs, cells, t, fr, fun o => ?_, hr, h4, fun j u hj => ?_⟩
    · simp only [elp, add_none, Nat.add_assoc]
    · rw [Nat.add_assoc]
      exact h5 _ _ (flatten_get h3.lens hcs hj)

section
variable {P : Program} {N : Nat} {c : Cx} {l : List (Nat × Value)} {L : List HE} {α : Type} {k : Kind α} {xs : List α} {v : Value}
theorem dLen {t : TypeId} {e : TypeId} {x : Operand} {at_ : Array TypeId} (hs : SlE c L v k xs) (h0 : at_[0]? = some t) (ht : P.underlying t = some (.slice e)) (hx : Ev l x v) : Rd P N c (.call { callee := .builtin .len, args := #[x], argTypes := at_ }) l L (.int .i64 (xs.length : Int)) := fun o a w ho he hst => by
  obtain ⟨R, A, cap, rfl, _⟩ := hs w hst
  simp [execOp, ho, resolve, invoke, builtin, he.eval hx, Builtin.len_, h0, run_und ht, goInt]
theorem dLenStr {t : TypeId} {x : Operand} {s : List UInt8} {at_ : Array TypeId} (h0 : at_[0]? = some t) (ht : P.underlying t = some .string) (hx : Ev l x (vS s)) : Rd P N c (.call { callee := .builtin .len, args := #[x], argTypes := at_ }) l L (.int .i64 (s.length : Int)) := fun o a w ho he hst => by
  have hsz : (⟨s.toArray⟩ : ByteArray).size = s.length := by simp [ByteArray.size]
  simp [execOp, ho, resolve, invoke, builtin, he.eval hx, vS, Builtin.len_, h0, run_und ht, goInt, hsz]
theorem dIxAddr {t e : TypeId} {x i : Operand} {kk : IntKind} {i' : Int} {y : α} (hs : SlE c L v k xs) (ht : P.underlying t = some (.slice e)) (hsz : sizeT P e = some k.n) (hx : Ev l x v) (hi : Ev l i (.int kk i')) (h0 : 0 ≤ i') (hy : xs[i'.toNat]? = some y) :
    Rd P N c (.indexAddr t x i) l L (elp v k.n i'.toNat 0) := fun o a w ho he hst => by
  obtain ⟨R, A, cap, rfl, h1, h2, h3⟩ := hs w hst
  have hlt := (List.getElem?_eq_some_iff.1 hy).1
  rcases h3 with rfl | ⟨b, off, css, cells, t', fr, rfl, _⟩
  · simp at hlt
  · simp only [execOp, ho, he.eval hx, he.eval hi, Instr.indexAt]
    simp [asIntOf, run_und ht, run_sizeOf hsz, h0, show i' < (xs.length : Int) by omega, elp]
theorem dFldE {t : TypeId} {x : Operand} {i f o off sz o' : Nat} {ag : Bool} {y : α} (hs : SlE c L v k xs) (hf : fieldOf P t f = some (off, sz, ag)) (hsz : sz ≠ 0) (hx : Ev l x (elp v k.n i o)) (hy : xs[i]? = some y) (ho' : o + off = o') :
    Rd P N c (.fieldAddr t x f) l L (elp v k.n i o') := fun op a w ho he hst => by
  obtain ⟨R, hsl⟩ := hs w hst
  obtain ⟨b, off', cs, cells, t', fr, hel, _⟩ := hsl.elem hy
  have hx' := he.eval hx
  rw [hel] at hx'
  subst ho'
  rw [hel]
  unfold fieldOf at hf
  split at hf
  · rename_i fs hu
    obtain ⟨fd, hfd, hf⟩ := Option.bind_eq_some_iff.1 hf
    obtain ⟨inf, hinf, hf⟩ := Option.bind_eq_some_iff.1 hf
    obtain ⟨b', hb', hf⟩ := Option.map_eq_some_iff.1 hf
    simp only [Prod.mk.injEq] at hf
    obtain ⟨rfl, rfl, rfl⟩ := hf
    simp [execOp, ho, hx', Instr.fieldAt, run_und hu, hfd, Instr.sureAddr, fieldPlace, run_sizeOf (show sizeT P fd.type = some inf.size by simp [sizeT, hinf]), hsz, add_none, Nat.add_assoc]
  · cases hf
theorem run_load_some {w : World} {a : Addr} {u : Value} (h : w.cell? a = some u) : (load a).run P w = .ok u w := by simp only [run_load, h]
theorem run_loadVar_one {w : World} {t : TypeId} {a : Addr} {u : Value} (ht : aggT P t = some false) (h : w.cell? a = some u) : (loadVar t a).run P w = .ok u w := by
  simp only [loadVar, Sem.run_bind, run_isAgg ht, Result.andThen_ok, Bool.false_eq_true, if_false, run_load_some h]
theorem run_loadVar_agg {w : World} {t : TypeId} {n : Nat} {b o : Nat} {us : List Value} (ht : aggT P t = some true) (hn : sizeT P t = some n) (hl : us.length = n) (h : ∀ j u, us[j]? = some u → w.cell? ⟨b, o + j, none⟩ = some u) : (loadVar t ⟨b, o, none⟩).run P w = .ok (.agg us.toArray) w := by
  have := run_loadCells_list (P := P) (w := w) ⟨b, o, none⟩ us (fun j u hj => by rw [add_none]; exact h j u hj)
  rw [hl] at this
  simp [loadVar, run_isAgg ht, run_sizeOf hn, this]
theorem dLoadE {t : TypeId} {x : Operand} {i o : Nat} {y : α} {u : Value} (hs : SlE c L v k xs) (ht : aggT P t = some false) (hx : Ev l x (elp v k.n i o)) (hy : xs[i]? = some y) (hv : ∀ R cs, k.rd R cs y → cs[o]? = some u) : Rd P N c (.load t x) l L u := fun op a w ho he hst => by
  obtain ⟨R, hsl⟩ := hs w hst
  obtain ⟨b, off, cs, cells, t', fr, hel, hr, hb, hc⟩ := hsl.elem hy
  have hx' := he.eval hx
  rw [hel] at hx'
  have hcell : w.cell? ⟨b, off + o, none⟩ = some u := by rw [cell_hp hb]; exact hc _ _ (hv R cs hr)
  simp [execOp, ho, hx', Instr.loadAt, Instr.sureAddr, run_loadVar_one ht hcell]
theorem dLoadEA {t : TypeId} {x : Operand} {i o sz : Nat} {y : α} {us : List Value} (hs : SlE c L v k xs) (ht : aggT P t = some true) (hsz : sizeT P t = some sz) (hl : us.length = sz) (hx : Ev l x (elp v k.n i o)) (hy : xs[i]? = some y) (hv : ∀ R cs, k.rd R cs y → (cs.drop o).take sz = us) :
    Rd P N c (.load t x) l L (.agg us.toArray) := fun op a w ho he hst => by
  obtain ⟨R, hsl⟩ := hs w hst
  obtain ⟨b, off, cs, cells, t', fr, hel, hr, hb, hc⟩ := hsl.elem hy
  have hx' := he.eval hx
  rw [hel] at hx'
  have h1 : ∀ j u, us[j]? = some u → w.cell? ⟨b, off + o + j, none⟩ = some u := fun j u hj => by
    rw [cell_hp hb, Nat.add_assoc]
    refine hc _ _ ?_
    have := hv R cs hr
    rw [← this] at hj
    rw [List.getElem?_take] at hj
    split at hj
    · rw [List.getElem?_drop] at hj; exact hj
    · cases hj
  simp [execOp, ho, hx', Instr.loadAt, Instr.sureAddr, run_loadVar_agg ht hsz hl h1]

/-! ### Blocks -/
theorem blk_hp {w : World} {b : Nat} {cs : List Value} {t : TypeId} {L' : List HE} (hs : St c.F c.R0 c.w0 w L) (r : Rem (.blk b cs t) L L') : hp w b = some (.cells cs.toArray t (0, 0)) := by
  obtain ⟨R, h, hsem, hf, _⟩ := (hs.rem r).cons_frame
  have hsem' : h = PH.one b (.cells cs.toArray t (0, 0)) := hsem
  subst hsem'
  exact hf.h_le _ _ (PH.one_same _ _)
theorem dFld {t : TypeId} {x : Operand} {b o f off sz o' : Nat} {ag : Bool} (hf : fieldOf P t f = some (off, sz, ag)) (hsz : sz ≠ 0) (hx : Ev l x (.pointer (some ⟨b, o, none⟩))) (ho' : o + off = o') :
    Rd P N c (.fieldAddr t x f) l L (.pointer (some ⟨b, o', none⟩)) := fun op a w ho he hst => by
  subst ho'
  unfold fieldOf at hf
  split at hf
  · rename_i fs hu
    obtain ⟨fd, hfd, hf⟩ := Option.bind_eq_some_iff.1 hf
    obtain ⟨inf, hinf, hf⟩ := Option.bind_eq_some_iff.1 hf
    obtain ⟨b', hb', hf⟩ := Option.map_eq_some_iff.1 hf
    simp only [Prod.mk.injEq] at hf
    obtain ⟨rfl, rfl, rfl⟩ := hf
    simp [execOp, ho, he.eval hx, Instr.fieldAt, run_und hu, hfd, Instr.sureAddr, fieldPlace, run_sizeOf (show sizeT P fd.type = some inf.size by simp [sizeT, hinf]), hsz, add_none]
  · cases hf
/-- The address of an array's element, of an array in a block. -/
theorem dIxArr {t e : TypeId} {x i : Operand} {kk : IntKind} {i' : Int} {b o n sz : Nat} (ht : P.underlying t = some (.array n e)) (hsz : sizeT P e = some sz) (hx : Ev l x (.pointer (some ⟨b, o, none⟩))) (hi : Ev l i (.int kk i')) (h0 : 0 ≤ i') (h1 : i' < n) :
    Rd P N c (.indexAddr t x i) l L (.pointer (some ⟨b, o + i'.toNat * sz, none⟩)) := fun op a w ho he hst => by
  simp only [execOp, ho, he.eval hx, he.eval hi, Instr.indexAt]
  simp [asIntOf, run_und ht, run_sizeOf hsz, h0, h1, Instr.sureAddr, add_none]
theorem dLoad {t tb : TypeId} {x : Operand} {b o : Nat} {cs : List Value} {u : Value} {L' : List HE} (r : Rem (.blk b cs tb) L L') (ht : aggT P t = some false) (hx : Ev l x (.pointer (some ⟨b, o, none⟩))) (hu : cs[o]? = some u) : Rd P N c (.load t x) l L u := fun op a w ho he hst => by
  have hcell : w.cell? ⟨b, o, none⟩ = some u := by rw [cell_hp (blk_hp hst r)]; simpa using hu
  simp [execOp, ho, he.eval hx, Instr.loadAt, Instr.sureAddr, run_loadVar_one ht hcell]
theorem dLoadA {t tb : TypeId} {x : Operand} {b o sz : Nat} {cs us : List Value} {L' : List HE} (r : Rem (.blk b cs tb) L L') (ht : aggT P t = some true) (hsz : sizeT P t = some sz) (hl : us.length = sz) (hx : Ev l x (.pointer (some ⟨b, o, none⟩))) (hu : (cs.drop o).take sz = us) :
    Rd P N c (.load t x) l L (.agg us.toArray) := fun op a w ho he hst => by
  have h1 : ∀ j u, us[j]? = some u → w.cell? ⟨b, o + j, none⟩ = some u := fun j u hj => by
    rw [cell_hp (blk_hp hst r)]
    rw [← hu, List.getElem?_take] at hj
    split at hj
    · rw [List.getElem?_drop] at hj; simpa using hj
    · cases hj
  simp [execOp, ho, he.eval hx, Instr.loadAt, Instr.sureAddr, run_loadVar_agg ht hsz hl h1]
/-! ### Parts of values -/
theorem run_part {w : World} {t : TypeId} {cs : Array Value} {o sz : Nat} {u : Value} {ag : Bool} (ht : aggT P t = some ag) (hsz : sizeT P t = some sz) (hu : (if ag = true then some (Value.agg (cs.extract o (o + sz))) else cs[o]?) = some u) : (part t cs o).run P w = .ok u w := by
  cases ag with
  | true => simp at hu; simp [part, run_isAgg ht, run_sizeOf hsz, hu]
  | false => simp at hu; simp [part, run_isAgg ht, hu]
theorem dField {t : TypeId} {x : Operand} {f off sz : Nat} {ag : Bool} {cs : List Value} {u : Value} (hf : fieldOf P t f = some (off, sz, ag)) (hx : Ev l x (.agg cs.toArray)) (hu : (if ag = true then some (Value.agg ((cs.drop off).take sz).toArray) else cs[off]?) = some u) :
    Rd P N c (.field t x f) l L u := fun op a w ho he hst => by
  unfold fieldOf at hf
  split at hf
  · rename_i fs hu'
    obtain ⟨fd, hfd, hf⟩ := Option.bind_eq_some_iff.1 hf
    obtain ⟨inf, hinf, hf⟩ := Option.bind_eq_some_iff.1 hf
    obtain ⟨b', hb', hf⟩ := Option.map_eq_some_iff.1 hf
    simp only [Prod.mk.injEq] at hf
    obtain ⟨rfl, rfl, rfl⟩ := hf
    have hp : (part fd.type cs.toArray fd.offset).run P w = .ok u w := by
      refine run_part hb' (show sizeT P fd.type = some inf.size by simp [sizeT, hinf]) ?_
      rw [← hu]
      split
      · simp [List.extract_eq_take_drop]
      · simp
    simp [execOp, ho, he.eval hx, Instr.field, run_und hu', hfd, asAgg, hp]
  · cases hf
/-! ### Strings -/
theorem dIxStr {t : TypeId} {x i : Operand} {s : List UInt8} {kk : IntKind} {i' : Int} {y : UInt8} (ht : P.underlying t = some .string) (hx : Ev l x (vS s)) (hi : Ev l i (.int kk i')) (h0 : 0 ≤ i') (hy : s[i'.toNat]? = some y) : Rd P N c (.index t x i) l L (vB y) := fun op a w ho he hst => by
  have hlt := (List.getElem?_eq_some_iff.1 hy).1
  have hg : (⟨s.toArray⟩ : ByteArray)[i'.toNat]? = some y := by
    have h3 : i'.toNat < (⟨s.toArray⟩ : ByteArray).size := by simpa [ByteArray.size] using hlt
    rw [getElem?_pos (⟨s.toArray⟩ : ByteArray) i'.toNat h3]
    have h2 := (List.getElem?_eq_some_iff.1 hy).2
    exact congrArg some h2
  simp only [execOp, ho, he.eval hx, he.eval hi, Instr.index, vS]
  simp [asIntOf, run_und ht, h0, hg, vB]
theorem dSubStr {t : TypeId} {x : Operand} {s y : List UInt8} {lo hi : Option Operand} {lo' hi' : Int} (ht : P.underlying t = some .string) (hx : Ev l x (vS s))
    (hlo : match lo with | some o => ∃ k, Ev l o (.int k lo') | none => lo' = 0) (hhi : match hi with | some o => ∃ k, Ev l o (.int k hi') | none => hi' = s.length) (hy : sub s lo' hi' = some y) : Rd P N c (.slice t x lo hi none) l L (vS y) := fun op a w ho he hst => by
  obtain ⟨h0, h1, h2, rfl⟩ := sub_some hy
  have hb : ∀ (k : IntKind) (i : Int) (n : Nat) (cd : BoundsCode), 0 ≤ i → i ≤ n → (Instr.sliceBound (.int k i) n cd).run P w = .ok i.toNat w := fun k i n cd h h' => by simp [Instr.sliceBound, asIntOf, h, h']
  have hsz : (⟨s.toArray⟩ : ByteArray).size = s.length := by simp [ByteArray.size]
  have he1 : (⟨s.toArray⟩ : ByteArray).extract lo'.toNat hi'.toNat = ⟨((s.take hi'.toNat).drop lo'.toNat).toArray⟩ := by
    apply ByteArray.ext
    rw [ByteArray.data_extract]
    simp [List.extract_eq_take_drop, List.drop_take]
  simp only [execOp, ho, he.eval hx, Instr.sliceAt, run_und ht, vS, Sem.run_bind, Result.andThen_ok]
  have hL : (Instr.sliceBounds false (⟨s.toArray⟩ : ByteArray).size (⟨s.toArray⟩ : ByteArray).size (lo.map a.eval) (hi.map a.eval) none).run P w = .ok (lo'.toNat, hi'.toNat, s.length) w := by
    rw [hsz]
    cases lo with
    | none =>
      cases hi with
      | none => simp only at hlo hhi; subst hlo hhi; simp [Instr.sliceBounds]
      | some o2 => obtain ⟨k2, e2⟩ := hhi; simp only at hlo; subst hlo; simp [Instr.sliceBounds, he.eval e2, hb k2 hi' s.length _ (by omega) (by omega)]
    | some o1 =>
      obtain ⟨k1, e1⟩ := hlo
      cases hi with
      | none => simp only at hhi; subst hhi; simp [Instr.sliceBounds, he.eval e1, hb k1 lo' s.length _ (by omega) (by omega)]
      | some o2 => obtain ⟨k2, e2⟩ := hhi; simp [Instr.sliceBounds, he.eval e1, he.eval e2, hb k2 hi' s.length _ (by omega) (by omega), hb k1 lo' hi'.toNat _ (by omega) (by omega)]
  simp [Instr.slice, run_und ht, hL, he1]
end
end Go.Proofs.YtecipnjloenndaaDoor.SX
