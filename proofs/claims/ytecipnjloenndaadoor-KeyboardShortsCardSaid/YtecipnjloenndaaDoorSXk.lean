/-
Package-level variables that are only read.
-/
import Derived.Test.YtecipnjloenndaaDoorSXj
set_option linter.unusedVariables false
set_option linter.unusedSimpArgs false
namespace Go.Proofs.YtecipnjloenndaaDoor.SX
open Go Go.RowKit

def kVar (g : Nat) (t : TypeId) : Kind (List Value) where
  n := 0
  rd R cs x := cs = [] ∧ ∃ tf : TypeId × (Nat × Nat), R g = some (.cells x.toArray tf.1 tf.2)
  mono hR h := ⟨h.1, h.2.imp fun fr e => hR _ _ e⟩
  len h := by rw [h.1]; rfl
  one h := by rw [h.1]; intro c hc; cases hc
def enumV : Nat → List Value → List (Nat × Value)
  | _, [] => []
  | i, u :: us => (i, u) :: enumV (i + 1) us
def sizesB (sz : Nat) : List Value → Bool
  | [] => true
  | u :: us => match Nat.beq u.cells.toList.length sz with
    | true => sizesB sz us
    | false => false
theorem fill_enum {sz : Nat} : ∀ (us : List Value) (i : Nat) (zs : List Value), sizesB sz us = true → zs.length = (i + us.length) * sz →
    fillL (fun i => some (i * sz, sz)) zs (enumV i us) = some (zs.take (i * sz) ++ us.flatMap fun u => u.cells.toList)
  | [], i, zs, _, hl => by
    simp only [enumV, fillL, List.flatMap_nil, List.append_nil]
    rw [List.take_of_length_le (by simp at hl; omega)]
  | u :: us, i, zs, hs, hl => by
    unfold sizesB at hs
    split at hs
    · rename_i hb
      have hb' := Nat.eq_of_beq_eq_true hb
      have e1 : (i + (us.length + 1)) * sz = i * sz + sz + us.length * sz := by rw [Nat.add_mul, Nat.add_mul]; omega
      simp only [List.length_cons] at hl
      rw [e1] at hl
      have hle : Nat.ble (i * sz + sz) zs.length = true := Nat.ble_eq_true_of_le (by omega)
      simp only [enumV, fillL, hb, hle]
      rw [fill_enum us (i + 1) _ hs (by
        simp only [List.length_append, List.length_take, List.length_drop]
        rw [Nat.add_mul, Nat.add_mul, Nat.one_mul]
        omega)]
      have e2 : (i + 1) * sz = i * sz + sz := by rw [Nat.add_mul]; omega
      rw [e2]
      have h3 : (zs.take (i * sz) ++ (u.cells.toList ++ zs.drop (i * sz + sz))).take (i * sz + sz) = zs.take (i * sz) ++ u.cells.toList := by
        rw [← List.append_assoc, List.take_append_of_le_length (by simp only [List.length_append, List.length_take]; omega)]
        rw [List.take_of_length_le (by simp only [List.length_append, List.length_take]; omega)]
      rw [h3]
      simp
    · cases hs
section
variable {O : Type} {P : Program} {N : Nat} {c : Cx} {B : O → Exit → Act → World → Prop} {ks : List (KI O)} {m : Option O} {l : List (Nat × Value)} {L : List HE}
/-- A long literal. -/
theorem cBuildSliceN {α : Type} {k : Kind α} {xs : List α} {t e te : TypeId} {n : Nat} {ps : List (Nat × Operand)} {us : List Value} {z : Value} {css : List (List Value)} (ht : P.underlying t = some (.slice e)) (hsz : sizeT P e = some k.n) (hz : zeroT P e = some z) (hzl : z.cells.size = k.n) (hk : 0 < k.n)
    (hn : Nat.ble (n * k.n) 16777216 = true) (he : EvP l ps (enumV 0 us)) (hu : sizesB k.n us = true) (hus : us.length = n) (hf : (us.flatMap fun u => u.cells.toList) = css.flatten)
    (hx : xs.length = n) (hr : ∀ R h, sat R L h → All2 (k.rd R) css xs) : Ch P N c (.buildSlice t n ps.toArray) l L (fun b => .slice (some ⟨b, 0, none⟩) n n) (fun b => .own (.slice (some ⟨b, 0, none⟩) n n) e k xs :: L) := by
  have h1 : ∀ zs : List Value, zs.length = n * k.n → fillL (fun i => some (i * k.n, k.n)) zs (enumV 0 us) = some css.flatten := fun zs hl => by
    rw [fill_enum us 0 zs hu (by rw [hus, hl]; simp), hf]; simp
  exact cBuildSlice (te := te) ht hsz hz hzl hk hn he (h1 _ (by simp)) (fun zs hl => by rw [h1 zs hl, h1 _ (by simp)]) hx hr
theorem var_hp {g : Nat} {t : TypeId} {cs : List Value} {L' : List HE} (r : Rem (.ro (kVar g t) [] cs) L L') {w : World} (hs : St c.F c.R0 c.w0 w L) : ∃ tf : TypeId × (Nat × Nat), hp w g = some (.cells cs.toArray tf.1 tf.2) := by
  obtain ⟨R, h, hsat, hle, hR, rest⟩ := (hs.rem r).ex
  obtain ⟨_, _, _, _, ⟨_, _, fr, e⟩, _⟩ := hsat
  exact ⟨fr, hR _ _ e⟩
theorem dIxG {α : Type} {xs : List α} {t e : TypeId} {x i : Operand} {kk : IntKind} {i' : Int} {g n : Nat} {y : α} (ht : P.underlying t = some (.array n e)) (hsz : sizeT P e = some 1) (hn : xs.length = n) (hx : Ev l x (.pointer (some ⟨g, 0, none⟩))) (hi : Ev l i (.int kk i')) (h0 : 0 ≤ i') (hy : xs[i'.toNat]? = some y) :
    Rd P N c (.indexAddr t x i) l L (.pointer (some ⟨g, i'.toNat, none⟩)) := by
  have hlt := (List.getElem?_eq_some_iff.1 hy).1
  have := dIxArr (P := P) (N := N) (c := c) (L := L) ht hsz hx hi h0 (by omega)
  simpa using this
theorem dLoadG {α : Type} {f : α → Value} {xs : List α} {t tb : TypeId} {x : Operand} {g i : Nat} {y : α} {L' : List HE} (r : Rem (.ro (kVar g tb) [] (xs.map f)) L L') (ht : aggT P t = some false) (hx : Ev l x (.pointer (some ⟨g, i, none⟩))) (hy : xs[i]? = some y) : Rd P N c (.load t x) l L (f y) := fun op a w ho he hst => by
  obtain ⟨fr, hg⟩ := var_hp r hst
  have hcell : w.cell? ⟨g, i, none⟩ = some (f y) := by rw [cell_hp hg]; simp [hy]
  simp [execOp, ho, he.eval hx, Instr.loadAt, Instr.sureAddr, run_loadVar_one ht hcell]
end
end Go.Proofs.YtecipnjloenndaaDoor.SX
