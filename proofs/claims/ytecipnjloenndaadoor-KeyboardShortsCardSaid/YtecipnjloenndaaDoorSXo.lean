/-
Arguments, opened: what a type reads as; a law's frame, where it leaves what it was handed.
-/
import Derived.Test.YtecipnjloenndaaDoorSXm
import Derived.ProofKit
import Derived.Carry
import Derived.OpenShut
import Derived.ChangeArms
import Derived.ChangeSlices
import Derived.WideShapes
import Derived.Handed
import Derived.Lay
import Derived.Deep.Slices
set_option linter.unusedVariables false
set_option linter.unusedSimpArgs false
namespace Go.Proofs.YtecipnjloenndaaDoor.SX
open Go Go.RowKit Go.ChangeShapes Go.WideShapes Go.ChangeAt

/-- Whatever is read at this type is of this kind. -/
structure Opens (P : Program) {α : Type} (t : TypeId) (k : Kind α) : Prop where
  n : P.cellsOf t = k.n
  rd : ∀ {H : Type} (enc : TypeId × Value → H) (W : World) (base : Nat) (sp : Nat → Bool) (held : Bool) (fuel : Nat) (cs : List Value) (x : DataW H × List MemPlace), DataW.trod enc P W base sp held fuel t cs = some x → ∃ a, k.rd (hp W) cs a
section
variable {P : Program} {t e : TypeId}
theorem opInt {q : IntKind} (ht : P.underlying t = some (.int q)) (hc : P.cellsOf t = 1) : Opens P t (kI q) := ⟨hc, fun enc W base sp held fuel cs x h => by
  obtain ⟨n, rfl, _, _⟩ := DataW.trod_int ht h
  exact ⟨n, rfl⟩⟩
theorem opB (ht : P.underlying t = some (.int .u8)) (hc : P.cellsOf t = 1) : Opens P t kB := ⟨hc, fun enc W base sp held fuel cs x h => by
  obtain ⟨n, rfl, _, w⟩ := DataW.trod_int ht h
  have hw : 0 ≤ n ∧ n < 256 := by
    simp [Lit.wf, IntKind.min, IntKind.max, IntKind.signed, IntKind.bits] at w
    omega
  refine ⟨UInt8.ofNat n.toNat, ?_⟩
  show [Value.int .u8 n] = [vB _]
  have : (((UInt8.ofNat n.toNat).toNat : Nat) : Int) = n := by rw [UInt8.toNat_ofNat']; omega
  unfold vB
  rw [this]⟩
theorem opBool (ht : P.underlying t = some .bool) (hc : P.cellsOf t = 1) : Opens P t kBool := ⟨hc, fun enc W base sp held fuel cs x h => by
  obtain ⟨b, rfl, _⟩ := DataW.trod_bool ht h
  exact ⟨b, rfl⟩⟩
theorem opStr (ht : P.underlying t = some .string) (hc : P.cellsOf t = 1) : Opens P t kS := ⟨hc, fun enc W base sp held fuel cs x h => by
  obtain ⟨s, rfl, _, _⟩ := DataW.trod_string ht h
  exact ⟨s.data.toList, by show [Value.string s] = [vS s.data.toList]; simp [vS]⟩⟩
theorem addr_add_add (a : Addr) (i j : Nat) : (a.add i).add j = a.add (i + j) := Go.Deep.add_add a i j
theorem opSl {α : Type} {k : Kind α} (ht : P.underlying t = some (.slice e)) (hc : P.cellsOf t = 1) (h0 : 0 < k.n) (ho : Opens P e k) : Opens P t (kSl k) := ⟨hc, fun enc W base sp held fuel cs x h => by
  rcases DataW.trod_slice ht h with ⟨rfl, _⟩ | ⟨a, len, cap, elems, rest, n, _, rfl, _, _, hl, hm, hlen, hel, _, _⟩
  · exact ⟨[], none, 0, rfl, Nat.le_refl _, Nat.zero_le _, .inl rfl⟩
  · have key : ∀ m, m ≤ len → ∃ (css : List (List Value)) (xs : List α), All2 (k.rd (hp W)) css xs ∧ xs.length = m ∧ css.flatten.length = m * k.n ∧ ∀ j u, css.flatten[j]? = some u → W.cell? (a.add j) = some u := by
      intro m
      induction m with
      | zero => exact fun _ => ⟨[], [], .nil, rfl, by simp, by simp⟩
      | succ m ih =>
        intro hm1
        obtain ⟨css, xs, g1, g2, g3, g4⟩ := ih (by omega)
        have h1 := hel m (by omega)
        rw [List.getElem?_eq_getElem (by omega)] at h1
        obtain ⟨cs, c1, c2⟩ := Option.bind_eq_some_iff.1 h1
        obtain ⟨y, hy⟩ := ho.rd enc W base sp held n cs _ c2
        obtain ⟨_, d1, d2⟩ := World.cells?_some c1
        rw [ho.n] at d1 d2
        have app : ∀ {as : List (List Value)} {bs : List α}, All2 (k.rd (hp W)) as bs → All2 (k.rd (hp W)) (as ++ [cs]) (bs ++ [y]) := by
          intro as bs hh
          induction hh with
          | nil => exact .cons hy .nil
          | cons h _ ih => exact .cons h ih
        refine ⟨css ++ [cs], xs ++ [y], app g1, by simp [g2], by simp [g3, d1, Nat.add_mul], ?_⟩
        intro j u hu
        rw [List.flatten_append] at hu
        by_cases hj : j < css.flatten.length
        · rw [List.getElem?_append_left hj] at hu
          exact g4 j u hu
        · rw [List.getElem?_append_right (by omega)] at hu
          simp only [List.flatten_cons, List.flatten_nil, List.append_nil] at hu
          have hlt := (List.getElem?_eq_some_iff.1 hu).1
          have := d2 (j - css.flatten.length) (by omega)
          rw [addr_add_add, g3, show m * k.n + (j - m * k.n) = j by omega] at this
          rw [this, ← g3]
          exact hu
    obtain ⟨css, xs, g1, g2, g3, g4⟩ := key len (Nat.le_refl _)
    refine ⟨xs, some a, cap, by rw [g2], by omega, hm, ?_⟩
    by_cases hz : len = 0
    · left
      exact List.eq_nil_of_length_eq_zero (by omega)
    · right
      have hpos : 0 < css.flatten.length := by rw [g3]; exact Nat.mul_pos (by omega) h0
      have q0 := g4 0 _ (List.getElem?_eq_getElem hpos)
      have hsp : a.spot = none := by simpa [Addr.add] using World.cell?_spot q0
      obtain ⟨b, off, spot⟩ := a
      simp only at hsp
      subst hsp
      have q0' := q0
      unfold World.cell? at q0'
      simp only [Addr.add_lit] at q0'
      split at q0'
      · rename_i c t' fr hb
        refine ⟨b, off, css, c, t', fr, rfl, g1, hb, ?_⟩
        intro j u hu
        have := g4 j u hu
        unfold World.cell? at this
        simp only [Addr.add_lit, hb, Option.isSome_none, Bool.false_eq_true, if_false] at this
        exact this
      · cases q0'⟩
theorem kSl_len {α : Type} {k : Kind α} {R : PH} {cs : List Value} {xs : List α} (h : (kSl k).rd R cs xs) : xs.length ≤ maxLen := by
  obtain ⟨_, cap, _, h1, h2, _⟩ := h
  omega
/-- A struct's fields, each of its kind. -/
theorem open_fields {fs : Array Field} {H : Type} {enc : TypeId × Value → H} {W : World} {base : Nat} {sp : Nat → Bool} {held : Bool} {fuel : Nat} {cs : List Value} {x : DataW H × List MemPlace} (ht : P.underlying t = some (.struct fs)) (h : DataW.trod enc P W base sp held fuel t cs = some x) :
    ∀ (i : Nat) (u : TypeId) (o n : Nat), fs.toList[i]?.map (fun (f : Field) => (f.type, f.offset, P.cellsOf f.type)) = some (u, o, n) → ∃ fuel' y, DataW.trod enc P W base sp held fuel' u ((cs.drop o).take n) = some y := by
  intro i u o n hi
  obtain ⟨xs, n', rfl, _, hlen, hxs, hel⟩ := DataW.trod_struct ht h
  obtain ⟨f, hf, e⟩ := Option.map_eq_some_iff.1 hi
  simp only [Prod.mk.injEq] at e
  obtain ⟨rfl, rfl, rfl⟩ := e
  have h1 := hel i f (by simpa using hf)
  have hlt : i < xs.length := by
    rw [hxs]
    have := (List.getElem?_eq_some_iff.1 hf).1
    simpa using this
  rw [List.getElem?_eq_getElem hlt] at h1
  exact ⟨n', _, h1⟩
/-- A pair of one-cell fields. -/
theorem open_two {α β : Type} {k1 : Kind α} {k2 : Kind β} {u1 u2 : TypeId} {fs : Array Field} {H : Type} {enc : TypeId × Value → H} {W : World} {base b0 : Nat} {sp : Nat → Bool} {held : Bool} {v : Value} {d : DataW H} {ps : List MemPlace} (ht : P.underlying t = some (.struct fs)) (hfs : fs.toList.map (fun (f : Field) => (f.type, f.offset, P.cellsOf f.type)) = [(u1, 0, 1), (u2, 1, 1)]) (hc : P.cellsOf t = 2) (o1 : Opens P u1 k1) (o2 : Opens P u2 k2)
    (hval : Value.okWide P W .any b0 t v) (hd : DataW.Trod enc P W base sp held t v d ps) :
    ∃ c1 c2 x y, v = .agg #[c1, c2] ∧ k1.rd (hp W) [c1] x ∧ k2.rd (hp W) [c2] y := by
  obtain ⟨cs, rfl, hsz⟩ := okWide_struct ht hval
  obtain ⟨fuel, hf⟩ := hd
  have hg : ∀ i : Nat, fs.toList[i]?.map (fun (f : Field) => (f.type, f.offset, P.cellsOf f.type)) = ([(u1, 0, 1), (u2, 1, 1)] : List (TypeId × Nat × Nat))[i]? := by
    intro i; rw [← List.getElem?_map, hfs]
  obtain ⟨_, _, h1⟩ := open_fields ht hf 0 u1 0 1 (hg 0)
  obtain ⟨_, _, h2⟩ := open_fields ht hf 1 u2 1 1 (hg 1)
  obtain ⟨x, hx⟩ := o1.rd _ _ _ _ _ _ _ _ h1
  obtain ⟨y, hy⟩ := o2.rd _ _ _ _ _ _ _ _ h2
  rw [hc] at hsz
  obtain ⟨cs⟩ := cs
  match cs, hsz with
  | [c1, c2], _ => exact ⟨c1, c2, x, y, rfl, hx, hy⟩
/-- A slice that came in. -/
theorem open_sl {α : Type} {k : Kind α} {H : Type} {enc : TypeId × Value → H} {W : World} {base b0 : Nat} {sp : Nat → Bool} {held : Bool} {v : Value} {d : DataW H} {ps : List MemPlace} (ht : P.underlying t = some (.slice e)) (o : Opens P t (kSl k)) (hval : Value.okWide P W .any b0 t v) (hd : DataW.Trod enc P W base sp held t v d ps) : ∃ xs, (kSl k).rd (hp W) [v] xs := by
  obtain ⟨a, len, cap, rfl⟩ := okWide_slice ht hval
  obtain ⟨fuel, hf⟩ := hd
  exact o.rd _ _ _ _ _ _ _ _ hf
/-- What is behind a call that held nothing: all that was lies as it lay. -/
theorem below_of {W W' : World} {R : PH} (h : St PH.emp R W W' []) : Below W.heap.size W W' :=
  ⟨h.os, h.tape, h.output, h.size, fun k hk => by
    obtain ⟨_, _, _, _, _, _, _, hh⟩ := h.ex
    exact (hh k hk rfl).1⟩
/-- The arguments read behind the call as they read. -/
theorem trodAll_below (hl : laidOutB P = true) {H : Type} {enc : TypeId × Value → H} {W W' : World} (hb : Below W.heap.size W W') : ∀ (ts : List TypeId) (vs : List Value) (ds : List (DataW H)) (ps : List MemPlace), (∀ t ∈ ts, P.readableRec t = true ∧ t < P.types.size) → (∀ x ∈ ps, x.block < W.heap.size) →
    DataW.TrodAll enc P W 0 (fun _ => true) true ts vs ds ps → DataW.TrodAll enc P W' 0 (fun b => decide (b < W.heap.size)) true ts vs ds ps := by
  intro ts
  induction ts with
  | nil => intro vs ds ps _ _ h; cases vs <;> cases ds <;> simp_all [DataW.TrodAll]
  | cons t ts ih =>
    intro vs ds ps hr hlt h
    match vs, ds, h with
    | v :: vs, d :: ds, h =>
      obtain ⟨p, q, h1, h2, rfl⟩ := h
      have hrt := hr t (by simp)
      exact ⟨p, q, Below.trod hl hrt.1 hrt.2 h1 hb fun x hx => hlt x (by simp [hx]), ih vs ds q (fun t ht => hr t (by simp [ht])) (fun x hx => hlt x (by simp [hx])) h2, rfl⟩
theorem trodAll_length {H : Type} {enc : TypeId × Value → H} {W : World} {b : Nat} {sp : Nat → Bool} {held : Bool} : ∀ (ts : List TypeId) (vs : List Value) (ds : List (DataW H)) (ps : List MemPlace), DataW.TrodAll enc P W b sp held ts vs ds ps → ds.length = ts.length := by
  intro ts
  induction ts with
  | nil => intro vs ds ps h; cases vs <;> cases ds <;> simp_all [DataW.TrodAll]
  | cons t ts ih =>
    intro vs ds ps h
    match vs, ds, h with
    | v :: vs, d :: ds, h =>
      obtain ⟨p, q, h1, h2, rfl⟩ := h
      simp [ih vs ds q h2]
theorem trodAll_uncons {H : Type} {enc : TypeId × Value → H} {W : World} {b : Nat} {sp : Nat → Bool} {held : Bool} {ts : List TypeId} {vs : List Value} {ds : List (DataW H)} {ps : List MemPlace} (h : DataW.TrodAll enc P W b sp held (t :: ts) vs ds ps) : ∃ v vs' d ds' p q, vs = v :: vs' ∧ ds = d :: ds' ∧ DataW.Trod enc P W b sp held t v d p ∧ DataW.TrodAll enc P W b sp held ts vs' ds' q := by
  match vs, ds, h with
  | v :: vs, d :: ds, h =>
    obtain ⟨p, q, h1, h2, rfl⟩ := h
    exact ⟨v, vs, d, ds, p, q, rfl, rfl, h1, h2⟩
theorem trodAll_unnil {H : Type} {enc : TypeId × Value → H} {W : World} {b : Nat} {sp : Nat → Bool} {held : Bool} {vs : List Value} {ds : List (DataW H)} {ps : List MemPlace} (h : DataW.TrodAll enc P W b sp held [] vs ds ps) : vs = [] := by
  cases vs <;> cases ds <;> simp_all [DataW.TrodAll]
/-- A law's frame, where package variables are as they are laid. -/
theorem law_frameX {H : Type} {enc : TypeId × Value → H} {C : Checked} {os : Os} {f : FuncId} {fn : Func} {s : ChangeSpec} {tb : TypeId} {X : World → Prop} (hX : ∀ w w' : World, w.heap = w'.heap → X w → X w') (own : ownKnob C.prog.godebug = none) (started : os.Started) (noInit : C.prog.inits.idxOf? f = none) (hfn : C.prog.funcs[f]? = some fn)
    (witness : ∃ (w : World) (tape : Tape) (i : Input), w.os = os ∧ (w.forCall tape i).Shaped C.prog ∧ i.vars = [] ∧ Input.okWide C.prog (w.forCall tape i) .any w.heap.size f i ∧
      ((s.pre enc C.prog fn [] false (w.forCall tape i).memory i.args ∧ X (w.forCall tape i).memory) ∧ sizedMet enc C.prog fn (OpenSpec.ofChange s) false (w.forCall tape i).memory i.args) ∧ ({} : Assume).holds C.prog (lone (Frame.enter C.prog f i.args .normal) [] (w.forCall tape i)))
    (hl : laidOutB C.prog = true) (hpar : ∀ t ∈ fn.params.toList, C.prog.readableRec t = true ∧ t < C.prog.types.size) (hres : fn.resultTypes = #[tb]) (hb : C.prog.underlying tb = some .bool) (hv : s.vars = [])
    (hf : ∀ ds : List (DataW H), ds.length = fn.params.toList.length → s.fn H ds = { results := [.lit (.bool true)], args := ds })
    (contract : ∀ (W : World) (base : Nat) (args : Array Value) (ds : List (DataW H)) (ps : List MemPlace), X W →
      (∀ (j : Nat) t v, fn.params[j]? = some t → args[j]? = some v → Value.okWide C.prog W .any base t v) →
      DataW.TrodAll enc C.prog W 0 (fun _ => true) true fn.params.toList args.toList ds ps →
      Calls C.prog f args W fun e W' => e = .returned (.bool true) ∧ Below W.heap.size W W') :
    ReturnsInHanded {} C os f .any (fun w args => (s.pre enc C.prog fn [] false w args ∧ X w) ∧ sizedMet enc C.prog fn (OpenSpec.ofChange s) false w args) (s.post enc C.prog fn false true false false) := by
  refine returnsInHanded_of_change_and (X := fun w _ => X w) (fun _ _ _ hh h => hX _ _ hh h) own started noInit hfn witness ?_
  intro W base args ds gs before hval hW _ _ hL _
  have hW' := hW
  obtain ⟨p, q, hA, hV, rfl, hfz, hnd⟩ := hW
  rw [hv] at hV
  obtain ⟨rfl, rfl⟩ := trodVars_none hV
  have hlt : ∀ x ∈ p, x.block < W.heap.size := fun x hx => hW'.lt x (by simp [hx])
  refine (contract W base args ds p hL hval hA).mono fun e W' ⟨he, hbl⟩ => ?_
  subst he
  have e1 := hf ds (trodAll_length _ _ _ _ hA)
  refine ⟨_, rfl, ds, [], _, [], p, [], hW', ?_, ?_, ?_, Below.frame hbl _, fun h => by cases h⟩
  · rw [List.append_nil, e1, hres]; exact trodAll_mk1 (shut_bool hb true)
  · rw [List.append_nil, e1]; exact trodAll_below hl hbl _ _ _ _ hpar hlt hA
  · rw [hv]; simp [DataW.TrodVars, e1]
/-- A law's frame: it answers true, and leaves what it was handed. -/
theorem law_frame {H : Type} {enc : TypeId × Value → H} {C : Checked} {os : Os} {f : FuncId} {fn : Func} {s : ChangeSpec} {tb : TypeId} (own : ownKnob C.prog.godebug = none) (started : os.Started) (noInit : C.prog.inits.idxOf? f = none) (hfn : C.prog.funcs[f]? = some fn)
    (witness : ∃ (w : World) (tape : Tape) (i : Input), w.os = os ∧ (w.forCall tape i).Shaped C.prog ∧ i.vars = [] ∧ Input.okWide C.prog (w.forCall tape i) .any w.heap.size f i ∧
      s.pre6 enc C.prog fn [] false (w.forCall tape i).memory i.args ∧ ({} : Assume).holds C.prog (lone (Frame.enter C.prog f i.args .normal) [] (w.forCall tape i)))
    (hl : laidOutB C.prog = true) (hpar : ∀ t ∈ fn.params.toList, C.prog.readableRec t = true ∧ t < C.prog.types.size) (hres : fn.resultTypes = #[tb]) (hb : C.prog.underlying tb = some .bool) (hv : s.vars = [])
    (hf : ∀ ds : List (DataW H), ds.length = fn.params.toList.length → s.fn H ds = { results := [.lit (.bool true)], args := ds })
    (contract : ∀ (W : World) (base : Nat) (args : Array Value) (ds : List (DataW H)) (ps : List MemPlace),
      (∀ (j : Nat) t v, fn.params[j]? = some t → args[j]? = some v → Value.okWide C.prog W .any base t v) →
      DataW.TrodAll enc C.prog W 0 (fun _ => true) true fn.params.toList args.toList ds ps →
      Calls C.prog f args W fun e W' => e = .returned (.bool true) ∧ Below W.heap.size W W') :
    ReturnsInHanded {} C os f .any (s.pre6 enc C.prog fn [] false) (s.post enc C.prog fn false true false false) := by
  refine returnsInHanded_of_change own started noInit hfn witness ?_
  intro W base args ds gs before hval hW _ _
  have hW' := hW
  obtain ⟨p, q, hA, hV, rfl, hfz, hnd⟩ := hW
  rw [hv] at hV
  obtain ⟨rfl, rfl⟩ := trodVars_none hV
  have hlt : ∀ x ∈ p, x.block < W.heap.size := fun x hx => hW'.lt x (by simp [hx])
  refine (contract W base args ds p hval hA).mono fun e W' ⟨he, hbl⟩ => ?_
  subst he
  have e1 := hf ds (trodAll_length _ _ _ _ hA)
  refine ⟨_, rfl, ds, [], _, [], p, [], hW', ?_, ?_, ?_, Below.frame hbl _, fun h => by cases h⟩
  · rw [List.append_nil, e1, hres]; exact trodAll_mk1 (shut_bool hb true)
  · rw [List.append_nil, e1]; exact trodAll_below hl hbl _ _ _ _ hpar hlt hA
  · rw [hv]; simp [DataW.TrodVars, e1]
end
end Go.Proofs.YtecipnjloenndaaDoor.SX
