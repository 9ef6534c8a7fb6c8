/-
More rules: structures compared, a slice against nil, an array's element by a choice, elements that hold slices.
-/
import Derived.Test.YtecipnjloenndaaDoorSXi
import Derived.Laws.StructEq
set_option linter.unusedVariables false
set_option linter.unusedSimpArgs false
namespace Go.Proofs.YtecipnjloenndaaDoor.SX
open Go Go.RowKit

def partT (P : Program) (t : TypeId) (xs : Array Value) (off : Nat) : Option Value := match aggT P t with
  | some true => (sizeT P t).map fun n => .agg (xs.extract off (off + n))
  | some false => xs[off]?
  | none => none
theorem run_partT {P : Program} {t : TypeId} {xs : Array Value} {off : Nat} {v : Value} (h : partT P t xs off = some v) (w : World) : (part t xs off).run P w = .ok v w := by
  unfold partT at h
  cases ha : aggT P t with
  | none => rw [ha] at h; cases h
  | some b =>
    rw [ha] at h
    cases b with
    | true =>
      simp only [Option.map_eq_some_iff] at h
      obtain ⟨n, hn, rfl⟩ := h
      simp [part, run_isAgg ha, run_sizeOf hn]
    | false =>
      simp only at h
      simp [part, run_isAgg ha, h]
def eqFs (P : Program) (E : TypeId → Value → Value → Option Bool) (xs ys : Array Value) : List Field → Option Bool
  | [] => some true
  | f :: fs => match decide (f.name ≠ "_"), partT P f.type xs f.offset, partT P f.type ys f.offset with
    | true, some a, some b => match E f.type a b, eqFs P E xs ys fs with
      | some r, some r' => some (r && r')
      | _, _ => none
    | _, _, _ => none
def eqT (P : Program) : Nat → TypeId → Value → Value → Option Bool
  | 0, _, _, _ => none
  | d + 1, t, x, y => match P.underlying t with
    | some .bool => match x, y with
      | .bool a, .bool b => some (a == b)
      | _, _ => none
    | some (.int _) => match x, y with
      | .int k a, .int k' b => if k = k' then some (a == b) else none
      | _, _ => none
    | some .string => match x, y with
      | .string a, .string b => some (a == b)
      | _, _ => none
    | some (.struct fs) => match x, y with
      | .agg xs, .agg ys => if P.stoodInHeld t = true then none else eqFs P (eqT P d) xs ys fs.toList
      | _, _ => none
    | _ => none
theorem run_eqFs {P : Program} {d : Nat} {xs ys : Array Value} (ih : ∀ t x y r, eqT P d t x y = some r → ∀ w, (Op.equalIn d t x y).run P w = .ok r w) (w : World) : ∀ (fs : List Field) (r : Bool), eqFs P (eqT P d) xs ys fs = some r → (Op.eqFields d xs ys fs).run P w = .ok r w
  | [], r, h => by
    cases h
    simp [Op.eqFields]
  | f :: fs, r, h => by
    unfold eqFs at h
    split at h
    · rename_i a b hn ha hb
      split at h
      · rename_i r1 r2 h1 h2
        cases h
        have hn' : f.name ≠ "_" := by simpa using hn
        simp only [Op.eqFields, ne_eq, hn', not_false_eq_true, if_true, Sem.run_bind, run_partT ha, run_partT hb, ih _ _ _ _ h1, Result.andThen_ok]
        cases r1 with
        | true => simpa using run_eqFs ih w fs r2 h2
        | false => simp
      · cases h
    · cases h
theorem run_eqT {P : Program} : ∀ (d : Nat) (t : TypeId) (x y : Value) (r : Bool), eqT P d t x y = some r → ∀ w, (Op.equalIn d t x y).run P w = .ok r w := by
  intro d
  induction d with
  | zero => intro t x y r h; cases h
  | succ d ih =>
    intro t x y r h w
    unfold eqT at h
    split at h
    · rename_i hu
      split at h
      · cases h; simp only [Op.equalIn, Sem.run_bind, run_underlying hu, Result.andThen_ok, Sem.run_pure]
      · cases h
    · rename_i hu
      split at h
      · split at h
        · rename_i hk
          cases h; subst hk
          simp only [Op.equalIn, Sem.run_bind, run_underlying hu, Result.andThen_ok, if_true, Sem.run_pure]
        · cases h
      · cases h
    · rename_i hu
      split at h
      · cases h; simp only [Op.equalIn, Sem.run_bind, run_underlying hu, Result.andThen_ok, Sem.run_pure]
      · cases h
    · rename_i fs hu
      split at h
      · rename_i xs ys
        split at h
        · cases h
        · rename_i hs
          have hf : P.fieldsOf t = fs := by simp [Program.fieldsOf, hu]
          rw [run_equalIn_struct w d t xs ys (by rw [hf]; exact hu) (by simpa using hs), hf]
          exact run_eqFs ih w _ _ h
      · cases h
    · cases h

/-! ### Kinds that come again in themselves -/
def noK (α : Type) (n : Nat) : Kind α := ⟨n, fun _ _ _ => False, fun _ h => h, fun h => h.elim, fun h => h.elim⟩
def lfpK {α : Type} (K : Nat → Kind α) (n : Nat) (hn : ∀ d, (K d).n = n) : Kind α where
  n := n
  rd R cs x := ∃ d, (K d).rd R cs x
  mono hR h := h.imp fun d hd => (K d).mono hR hd
  len h := by obtain ⟨d, hd⟩ := h; rw [← hn d]; exact (K d).len hd
  one h := by obtain ⟨d, hd⟩ := h; exact (K d).one hd
theorem kSl_mono' {α : Type} {k k' : Kind α} (h : ∀ R cs x, k.rd R cs x → k'.rd R cs x) {R : PH} {cs : List Value} {xs : List α} (hs : (kSl k).rd R cs xs) : (kSl k').rd R cs xs := by
  obtain ⟨A, cap, h1, h2, h3, h4⟩ := hs
  refine ⟨A, cap, h1, h2, h3, h4.imp id ?_⟩
  rintro ⟨b, off, css, cells, t, fr, e1, e2, e3, e4⟩
  exact ⟨b, off, css, cells, t, fr, e1, e2.imp fun _ _ h' => h _ _ _ h', e3, e4⟩
theorem all2_sup {α : Type} {K : Nat → Kind α} (hm : ∀ d R cs x, (K d).rd R cs x → (K (d + 1)).rd R cs x) {R : PH} {css : List (List Value)} {xs : List α} (h : All2 (fun cs x => ∃ d, (K d).rd R cs x) css xs) : ∃ d, All2 ((K d).rd R) css xs := by
  have hle : ∀ {d e : Nat}, d ≤ e → ∀ cs x, (K d).rd R cs x → (K e).rd R cs x := by
    intro d e hde
    induction hde with
    | refl => exact fun _ _ h => h
    | step _ ih => exact fun cs x h => hm _ _ _ _ (ih cs x h)
  induction h with
  | nil => exact ⟨0, .nil⟩
  | cons h _ ih =>
    obtain ⟨d, hd⟩ := h
    obtain ⟨e, he⟩ := ih
    exact ⟨max d e, .cons (hle (Nat.le_max_left _ _) _ _ hd) (he.imp fun _ _ h => hle (Nat.le_max_right _ _) _ _ h)⟩
theorem kSl_sup {α : Type} {K : Nat → Kind α} {n : Nat} {hn : ∀ d, (K d).n = n} (hm : ∀ d R cs x, (K d).rd R cs x → (K (d + 1)).rd R cs x) {R : PH} {cs : List Value} {xs : List α} (hs : (kSl (lfpK K n hn)).rd R cs xs) : ∃ d, (kSl (K d)).rd R cs xs := by
  obtain ⟨A, cap, h1, h2, h3, h4⟩ := hs
  rcases h4 with h4 | ⟨b, off, css, cells, t, fr, e1, e2, e3, e4⟩
  · exact ⟨0, A, cap, h1, h2, h3, .inl h4⟩
  · obtain ⟨d, hd⟩ := all2_sup hm e2
    exact ⟨d, A, cap, h1, h2, h3, .inr ⟨b, off, css, cells, t, fr, e1, hd, e3, e4⟩⟩

section
variable {O : Type} {P : Program} {N : Nat} {c : Cx} {B : O → Exit → Act → World → Prop} {ks : List (KI O)} {m : Option O} {l : List (Nat × Value)} {L : List HE}
theorem run_eqGuard {P : Program} {b : BinOp} {t : TypeId} {x y : Operand} {us vs : Array Value} (hg : P.eqGuardType P.depth t = false) (w : World) : (eqGuard b t x y (.agg us) (.agg vs)).run P w = .ok () w := by
  unfold eqGuard
  cases b <;> simp [hg]
theorem dEqA {t yt : TypeId} {x y : Operand} {us vs : List Value} {r : Bool} (hg : P.eqGuardType P.depth t = false) (he : eqT P 10000 t (.agg us.toArray) (.agg vs.toArray) = some r) (hx : Ev l x (.agg us.toArray)) (hy : Ev l y (.agg vs.toArray)) : Rd P N c (.binOp .eql t x y yt) l L (.bool r) := fun o a w ho hen hs => by
  have h1 := run_eqT _ _ _ _ _ he w
  simp only [execOp, ho, hen.eval hx, hen.eval hy, Sem.run_bind, run_eqGuard hg, Result.andThen_ok, binOp, Op.equal, Op.maxDepth, h1, Sem.run_pure]
theorem dNeA {t yt : TypeId} {x y : Operand} {us vs : List Value} {r : Bool} (hg : P.eqGuardType P.depth t = false) (he : eqT P 10000 t (.agg us.toArray) (.agg vs.toArray) = some r) (hx : Ev l x (.agg us.toArray)) (hy : Ev l y (.agg vs.toArray)) : Rd P N c (.binOp .neq t x y yt) l L (.bool (!r)) := fun o a w ho hen hs => by
  have h1 := run_eqT _ _ _ _ _ he w
  simp only [execOp, ho, hen.eval hx, hen.eval hy, Sem.run_bind, run_eqGuard hg, Result.andThen_ok, binOp, Op.equal, Op.maxDepth, h1, Sem.run_pure]
def nilS : Value → Bool
  | .slice none _ _ => true
  | _ => false
theorem dSlEqNil {α : Type} {k : Kind α} {xs : List α} {t yt : TypeId} {e : TypeId} {x y : Operand} {v : Value} (hs : SlE c L v k xs) (ht : P.underlying t = some (.slice e)) (hx : Ev l x v) (hy : Ev l y (.slice none 0 0)) : Rd P N c (.binOp .eql t x y yt) l L (.bool (nilS v)) := fun o a w ho hen hst => by
  obtain ⟨R, A, cap, rfl, _⟩ := hs w hst
  have h : ∀ d, (Op.equalIn (d + 1) t (.slice A xs.length cap) (.slice none 0 0)).run P w = .ok (nilS (.slice A xs.length cap)) w := fun d => by
    cases A <;> simp only [Op.equalIn, Sem.run_bind, run_underlying ht, Result.andThen_ok, Sem.run_pure] <;> rfl
  have hq : (eqGuard .eql t x y (.slice A xs.length cap) (.slice none 0 0)).run P w = .ok () w := by unfold eqGuard; simp
  simp [execOp, ho, hen.eval hx, hen.eval hy, hq, binOp, Op.equal, Op.maxDepth, h 9999]
theorem dSlNeNil {α : Type} {k : Kind α} {xs : List α} {t yt : TypeId} {e : TypeId} {x y : Operand} {v : Value} (hs : SlE c L v k xs) (ht : P.underlying t = some (.slice e)) (hx : Ev l x v) (hy : Ev l y (.slice none 0 0)) : Rd P N c (.binOp .neq t x y yt) l L (.bool (!nilS v)) := fun o a w ho hen hst => by
  obtain ⟨R, A, cap, rfl, _⟩ := hs w hst
  have h : ∀ d, (Op.equalIn (d + 1) t (.slice A xs.length cap) (.slice none 0 0)).run P w = .ok (nilS (.slice A xs.length cap)) w := fun d => by
    cases A <;> simp only [Op.equalIn, Sem.run_bind, run_underlying ht, Result.andThen_ok, Sem.run_pure] <;> rfl
  have hq : (eqGuard .neq t x y (.slice A xs.length cap) (.slice none 0 0)).run P w = .ok () w := by unfold eqGuard; simp
  simp [execOp, ho, hen.eval hx, hen.eval hy, hq, binOp, Op.equal, Op.maxDepth, h 9999]
theorem nilFact {α : Type} {k : Kind α} {xs : List α} {v : Value} (hs : SlE c L v k xs) (hn : nilS v = true) : ∀ w, St c.F c.R0 c.w0 w L → xs = [] := fun w hst => by
  obtain ⟨R, A, cap, rfl, _, _, h⟩ := hs w hst
  rcases h with h | ⟨b, off, css, cells, t, fr, rfl, _⟩
  · exact h
  · cases hn
theorem dIxArrV {t e : TypeId} {x i : Operand} {kk : IntKind} {i' j : Int} {b o n sz : Nat} (hj : i' = j) (ht : P.underlying t = some (.array n e)) (hsz : sizeT P e = some sz) (hx : Ev l x (.pointer (some ⟨b, o, none⟩))) (hi : Ev l i (.int kk i')) (h0 : 0 ≤ j) (h1 : j < n) :
    Rd P N c (.indexAddr t x i) l L (.pointer (some ⟨b, o + j.toNat * sz, none⟩)) := by
  subst hj
  exact dIxArr ht hsz hx hi h0 h1
theorem dConvI {s t : TypeId} {x : Operand} {a : Int} (hs : (P.underlying s).isSome = true) (ht : P.underlying t = some (.int .i64)) (hx : Ev l x (.int .i64 a)) : Rd P N c (.convert s t x) l L (.int .i64 (w64 a)) := by
  rw [w64]
  exact dConv hs ht hx
theorem dConvB8 {s t : TypeId} {x : Operand} {a : UInt8} (hs : (P.underlying s).isSome = true) (ht : P.underlying t = some (.int .u8)) (hx : Ev l x (vB a)) : Rd P N c (.convert s t x) l L (vB a) := dConvB hs ht rfl hx
theorem dMin {k : IntKind} {x y : Operand} {a b : Int} {ats : Array TypeId} (hx : Ev l x (.int k a)) (hy : Ev l y (.int k b)) : Rd P N c (.call { callee := .builtin .min, args := #[x, y], argTypes := ats }) l L (.int k (if b < a then b else a)) := fun o a' w ho he hst => by
  simp [execOp, ho, resolve, invoke, builtin, he.eval hx, he.eval hy, Builtin.min_, Builtin.min2]
theorem dMax {k : IntKind} {x y : Operand} {a b : Int} {ats : Array TypeId} (hx : Ev l x (.int k a)) (hy : Ev l y (.int k b)) : Rd P N c (.call { callee := .builtin .max, args := #[x, y], argTypes := ats }) l L (.int k (if b > a then b else a)) := fun o a' w ho he hst => by
  simp [execOp, ho, resolve, invoke, builtin, he.eval hx, he.eval hy, Builtin.max_, Builtin.max2]
theorem xSt {e : Exit} {L' : List HE} (s : ∀ w, St c.F c.R0 c.w0 w L → St c.F c.R0 c.w0 w L') (h : WX P N c B ks m e l L') : WX P N c B ks m e l L := fun out hm a w he hs => h out hm a w he (s w hs)
theorem xFact {e : Exit} {p : Prop} (s : ∀ w, St c.F c.R0 c.w0 w L → p) (h : p → WX P N c B ks m e l L) : WX P N c B ks m e l L := fun out hm a w he hs => h (s w hs) out hm a w he hs
theorem cStuck {x : Code} : WC P N c B ks none x l L := fun out hm => by cases hm
theorem xStuck {e : Exit} : WX P N c B ks none e l L := fun out hm => by cases hm
theorem lStuck {ops : Array Oper} {rest : List Oper} : WL P N c B ks none ops rest l L := fun out hm => by cases hm
theorem dBuildArr {t te : TypeId} {n sz : Nat} {ps : List (Nat × Operand)} {vs : List (Nat × Value)} {z : Value} {zs cs : List Value} (hz : zeroT P t = some z) (hzs : z.cells = zs.toArray) (ht : P.underlying t = some (.array n te)) (hsz : sizeT P te = some sz) (he : EvP l ps vs) (hf : fillL (fun i => some (i * sz, sz)) zs vs = some cs) :
    Rd P N c (.build t ps.toArray) l L (.agg cs.toArray) := fun op a w ho henv hst => by
  have hvs := he.eq henv
  have hfl := fill_fillL _ _ _ _ hf
  simp only [execOp, ho, Instr.build, Sem.run_bind, run_zero hz, Result.andThen_ok, run_und ht, run_sizeOf hsz, hzs]
  have : (List.map (fun x => (x.fst, a.eval x.snd)) ps) = vs := hvs
  simp [this, hfl]
theorem cells_one {v : Value} (h : v.oneCell' = true) : v.cells = #[v] := by cases v <;> simp_all [Value.cells, Value.oneCell']
theorem satRo {α : Type} {R : PH} {k : Kind α} {cs : List Value} {x : α} {L : List HE} (h : k.rd R cs x) (hs : sat R L PH.emp) : sat R (.ro k cs x :: L) PH.emp := ⟨PH.emp, PH.emp, (PH.un_emp _).symm, PH.dis_emp _, ⟨rfl, h⟩, hs⟩
theorem satNil {R : PH} : sat R [] PH.emp := rfl
/-- An element of a slice that is only read, with what its own slices read. -/
theorem cLoadRo {α X : Type} {k : Kind α} {xs : List α} {v : Value} {L' : List HE} (r : Rem (.ro (kSl k) [v] xs) L L') {t : TypeId} {x : Operand} {i sz : Nat} {y : α} (mk : X → List Value) (Es : X → List HE) (ht : aggT P t = some true) (hsz : sizeT P t = some sz) (hkn : k.n = sz) (hx : Ev l x (elp v k.n i 0)) (hy : xs[i]? = some y)
    (ho : ∀ R cs, k.rd R cs y → ∃ x, cs = mk x ∧ sat R (Es x) PH.emp) : Ch P N c (.load t x) l L (fun x => .agg (mk x).toArray) (fun x => Es x ++ L) := fun op a w hop he hs => by
  obtain ⟨R, h, hsat, hle, hR, rest⟩ := (hs.rem r).ex
  have hsat2 := r.iff.2 hsat
  obtain ⟨ha, hb', _, _, ⟨_, A, cap, h1, h2, h3, h4⟩, _⟩ := hsat
  cases h1
  have hsl : SlAt R w (.slice A xs.length cap) k xs := by
    refine ⟨A, cap, rfl, h2, h3, h4.imp id ?_⟩
    rintro ⟨b, off, css, cells, t, fr, e1, e2, e3, e4⟩
    exact ⟨b, off, css, cells, t, fr, e1, e2, hR _ _ e3, e4⟩
  obtain ⟨b, off, cs, cells, t', fr, hel, hr, hb, hc⟩ := hsl.elem hy
  obtain ⟨x0, rfl, hE⟩ := ho R cs hr
  have hx' := he.eval hx
  rw [hel] at hx'
  have hlen : (mk x0).length = sz := by rw [← hkn]; exact k.len hr
  have hcell : ∀ j u, (mk x0)[j]? = some u → w.cell? ⟨b, off + j, none⟩ = some u := fun j u hj => by
    rw [cell_hp hb]
    exact hc _ _ hj
  have hrun := run_loadVar_agg (P := P) (w := w) (b := b) (o := off) ht hsz hlen hcell
  refine ⟨x0, w, ?_, hs.os, hs.tape, hs.output, hs.size, R, h, sat_append.2 ⟨PH.emp, h, (PH.emp_un _).symm, PH.emp_dis _, hE, hsat2⟩, hle, hR, rest⟩
  simp [execOp, hop, hx', Instr.loadAt, Instr.sureAddr, hrun]
/-- Both ways, whatever the model. -/
theorem cCondN {x : Operand} {t f : Code} {b : Bool} (hx : Ev l x (.bool b)) (ht : b = true → WC P N c B ks m t l L) (hf : b = false → WC P N c B ks m f l L) : WC P N c B ks m (.cond x t f) l L := by
  cases b with
  | true => exact cCondT hx rfl (ht rfl)
  | false => exact cCondF hx rfl (hf rfl)
end
end Go.Proofs.YtecipnjloenndaaDoor.SX
