/-
Slices: made, grown, cut; handed over to what is only read; bytes and strings.
-/
import Derived.Test.YtecipnjloenndaaDoorSXe
set_option linter.unusedVariables false
set_option linter.unusedSimpArgs false
namespace Go.Proofs.YtecipnjloenndaaDoor.SX
open Go Go.RowKit

section
variable {P : Program} {N : Nat} {c : Cx} {l : List (Nat × Value)} {L : List HE} {α : Type} {k : Kind α} {xs ys : List α} {v : Value}

/-! ### Facts that may be had at will -/
theorem St.add {F R0 : PH} {w0 w : World} (hs : St F R0 w0 w L) {e : HE} (he : ∀ R h, sat R L h → R.le (hp w) → e.sem R PH.emp) : St F R0 w0 w (e :: L) := by
  obtain ⟨R, h, hsat, hle, hR, rest⟩ := hs.ex
  exact ⟨hs.os, hs.tape, hs.output, hs.size, R, h, ⟨PH.emp, h, (PH.emp_un h).symm, PH.emp_dis h, he R h hsat hR, hsat⟩, hle, hR, rest⟩
theorem ownNil (t : TypeId) (k : Kind α) : ∀ w, St c.F c.R0 c.w0 w L → St c.F c.R0 c.w0 w (.own (.slice none 0 0) t k [] :: L) := fun w hs => hs.add fun R h _ _ => .inl ⟨rfl, rfl, rfl⟩
theorem roNil (k : Kind α) : ∀ w, St c.F c.R0 c.w0 w L → St c.F c.R0 c.w0 w (.ro (kSl k) [.slice none 0 0] [] :: L) := fun w hs => hs.add fun R h _ _ => ⟨rfl, none, 0, rfl, Nat.le_refl _, Nat.zero_le _, .inl rfl⟩
theorem roAt {cs : List Value} {x : α} {L' : List HE} {R h : PH} (r : Rem (.ro k cs x) L L') (hs : sat R L h) : k.rd R cs x := by
  obtain ⟨h1, h2, _, _, hh, _⟩ := r.iff.1 hs
  exact hh.2
/-- A fact out of facts that are only read. -/
theorem roAdd {β : Type} {k' : Kind β} {cs : List Value} {y : β} (H : ∀ R h, sat R L h → k'.rd R cs y) : ∀ w, St c.F c.R0 c.w0 w L → St c.F c.R0 c.w0 w (.ro k' cs y :: L) := fun w hs => hs.add fun R h hsat _ => ⟨rfl, H R h hsat⟩
theorem roSub {L' : List HE} {lo hi : Int} (r : Rem (.ro (kSl k) [v] xs) L L') (hy : sub xs lo hi = some ys) : ∀ w, St c.F c.R0 c.w0 w L → St c.F c.R0 c.w0 w (.ro (kSl k) [slc v k.n lo.toNat hi.toNat] ys :: L) :=
  roAdd fun R h hs => by
    obtain ⟨A, cap, h1, h2, h3, h4⟩ := roAt r hs
    cases h1
    obtain ⟨q0, q1, q2, rfl⟩ := sub_some hy
    have hlen : ((xs.take hi.toNat).drop lo.toNat).length = hi.toNat - lo.toNat := by simp; omega
    refine ⟨(if cap = lo.toNat then A else A.map (·.add (lo.toNat * k.n))), cap - lo.toNat, by simp only [slc, hlen], by rw [hlen]; omega, by omega, ?_⟩
    rcases Nat.eq_zero_or_pos (hi.toNat - lo.toNat) with h0 | h0
    · exact .inl (List.eq_nil_of_length_eq_zero (by omega))
    · refine .inr ?_
      rcases h4 with rfl | ⟨b, off, css, cells, t, fr, rfl, e1, e2, e3⟩
      · simp at q2; omega
      · refine ⟨b, off + lo.toNat * k.n, (css.take hi.toNat).drop lo.toNat, cells, t, fr, ?_, (e1.take _).drop _, e2, fun j u hj => ?_⟩
        · rw [if_neg (by omega)]; simp [add_none]
        · rw [Nat.add_assoc]
          refine e3 _ _ ?_
          have hfl : css.flatten = (css.take lo.toNat).flatten ++ (((css.take hi.toNat).drop lo.toNat).flatten ++ (css.drop hi.toNat).flatten) := by
            rw [← List.flatten_append, ← List.flatten_append]
            congr 1
            have h1 : (css.take hi.toNat) = css.take lo.toNat ++ (css.take hi.toNat).drop lo.toNat := by
              conv => lhs; rw [← List.take_append_drop lo.toNat (css.take hi.toNat)]
              rw [List.take_take, Nat.min_eq_left (by omega)]
            conv => lhs; rw [← List.take_append_drop hi.toNat css, h1]
            simp
          have hll : (css.take lo.toNat).flatten.length = lo.toNat * k.n := by
            have hcl := e1.length
            have : ∀ (l : List (List Value)), (∀ cs ∈ l, cs.length = k.n) → l.flatten.length = l.length * k.n := by
              intro l
              induction l with
              | nil => intro _; simp
              | cons a l ih => intro h; simp [h a (by simp), ih fun cs hc => h cs (by simp [hc]), Nat.succ_mul]; omega
            rw [this _ fun cs hc => e1.lens cs (List.mem_of_mem_take hc), List.length_take, Nat.min_eq_left (by omega)]
          rw [hfl, List.getElem?_append_right (by omega), hll, Nat.add_sub_cancel_left, List.getElem?_append_left (List.getElem?_eq_some_iff.1 hj).1]
          exact hj
/-- What was held is only read from here on. -/
theorem freeze {t : TypeId} {L' : List HE} (r : Upd (.own v t k xs) (.ro (kSl k) [v] xs) L L') : ∀ w, St c.F c.R0 c.w0 w L → St c.F c.R0 c.w0 w L' := fun w hs => hs.upd r fun L1 hs => by
  obtain ⟨R, h, ⟨h1, h2, rfl, d, hsem, hrest⟩, hle, hR, hd, h0, hfr⟩ := hs.ex
  obtain ⟨hd1, hd2⟩ := PH.dis_un.1 hd
  have hRle : R.le (R.un h1) := PH.le_un_left _ _
  have h1le : h1.le (R.un h1) := PH.le_un_right (PH.dis_symm hd1)
  refine ⟨hs.os, hs.tape, hs.output, hs.size, R.un h1, h2, ⟨PH.emp, h2, (PH.emp_un h2).symm, PH.emp_dis h2, ⟨rfl, ?_⟩, sat_mono hRle hrest⟩, PH.le_trans (PH.le_un_right d) hle, PH.un_le hR (PH.le_trans (PH.le_un_left _ _) hle),
    PH.dis_un'.2 ⟨hd2, PH.dis_symm d⟩, PH.le_trans h0 hRle, fun i hi hF => ?_⟩
  · rcases hsem with ⟨rfl, rfl, rfl⟩ | ⟨b, pre, css, post, cap, fr, rfl, a2, a3, a4, a5, a6, rfl⟩
    · exact ⟨none, 0, rfl, Nat.le_refl _, Nat.zero_le _, .inl rfl⟩
    · refine ⟨_, cap, rfl, a3, a4, .inr ⟨b, pre.length, css, _, t, fr, rfl, a2.imp fun _ _ h => Kind.mono _ hRle h, h1le _ _ (PH.one_same _ _), fun j u hj => ?_⟩⟩
      have hlt := (List.getElem?_eq_some_iff.1 hj).1
      simp only [List.getElem?_toArray]
      rw [List.getElem?_append_right (by omega), Nat.add_sub_cancel_left, List.getElem?_append_left hlt]
      exact hj
  · obtain ⟨e1, e2, e3⟩ := hfr i hi hF
    obtain ⟨ea, eb⟩ := PH.un_none.1 e2
    exact ⟨e1, eb, by simp [PH.un, ea, e3]⟩
/-- A part of a slice that is held. -/
theorem ownSub {t : TypeId} {L' : List HE} {lo hi : Int} (r : Upd (.own v t k xs) (.own (slc v k.n lo.toNat hi.toNat) t k ys) L L') (hy : sub xs lo hi = some ys) : ∀ w, St c.F c.R0 c.w0 w L → St c.F c.R0 c.w0 w L' := fun w hs => hs.upd r fun L1 hs => by
  obtain ⟨R, h, ⟨h1, h2, rfl, d, hsem, hrest⟩, rest⟩ := hs.ex
  refine ⟨hs.os, hs.tape, hs.output, hs.size, R, _, ⟨h1, h2, rfl, d, ?_, hrest⟩, rest⟩
  obtain ⟨q0, q1, q2, rfl⟩ := sub_some hy
  have hlen : ((xs.take hi.toNat).drop lo.toNat).length = hi.toNat - lo.toNat := by simp; omega
  rcases hsem with ⟨rfl, rfl, rfl⟩ | ⟨b, pre, css, post, cap, fr, rfl, a2, a3, a4, a5, a6, rfl⟩
  · have e1 : hi.toNat = 0 := by simp at q2; omega
    have e2 : lo.toNat = 0 := by omega
    exact .inl ⟨by simp [slc, e1, e2], by simp, rfl⟩
  · right
    have hfl : css.flatten = (css.take lo.toNat).flatten ++ (((css.take hi.toNat).drop lo.toNat).flatten ++ (css.drop hi.toNat).flatten) := by
      rw [← List.flatten_append, ← List.flatten_append]
      congr 1
      have h1 : (css.take hi.toNat) = css.take lo.toNat ++ (css.take hi.toNat).drop lo.toNat := by
        conv => lhs; rw [← List.take_append_drop lo.toNat (css.take hi.toNat)]
        rw [List.take_take, Nat.min_eq_left (by omega)]
      conv => lhs; rw [← List.take_append_drop hi.toNat css, h1]
      simp
    have hll : ∀ (l : List (List Value)), (∀ cs ∈ l, cs.length = k.n) → l.flatten.length = l.length * k.n := by
      intro l
      induction l with
      | nil => intro _; simp
      | cons a l ih => intro h; simp [h a (by simp), ih fun cs hc => h cs (by simp [hc]), Nat.succ_mul]; omega
    have hcl := a2.length
    have hl1 : (css.take lo.toNat).flatten.length = lo.toNat * k.n := by
      rw [hll _ fun cs hc => a2.lens cs (List.mem_of_mem_take hc), List.length_take, Nat.min_eq_left (by omega)]
    have hl3 : (css.drop hi.toNat).flatten.length = (xs.length - hi.toNat) * k.n := by
      rw [hll _ fun cs hc => a2.lens cs (List.mem_of_mem_drop hc), List.length_drop, hcl]
    by_cases hc : cap = lo.toNat
    · refine ⟨b, pre, [], css.flatten ++ post, 0, fr, ?_, ?_, ?_, by simp [maxLen], by simp, by simpa using a6, by simp⟩
      · have : hi.toNat = lo.toNat := by omega
        simp [slc, hc, this]
      · have : (xs.take hi.toNat).drop lo.toNat = [] := List.eq_nil_of_length_eq_zero (by omega)
        rw [this]; exact .nil
      · rw [hlen]; omega
    · refine ⟨b, pre ++ (css.take lo.toNat).flatten, (css.take hi.toNat).drop lo.toNat, (css.drop hi.toNat).flatten ++ post, cap - lo.toNat, fr, ?_, (a2.take _).drop _, by rw [hlen]; omega, by omega, ?_, ?_, ?_⟩
      · simp only [slc, if_neg hc, Option.map_some, add_none, hlen, List.length_append, hl1]
      · rw [hlen]
        have : cap - lo.toNat - (hi.toNat - lo.toNat) = (cap - xs.length) + (xs.length - hi.toNat) := by omega
        rw [this, Nat.add_mul, List.length_append, hl3]; omega
      · rw [hfl] at a6; simpa using a6
      · rw [hfl]; simp
theorem dSlice {t e : TypeId} {x : Operand} {lo hi : Option Operand} {lo' hi' : Int} (hs : SlE c L v k xs) (ht : P.underlying t = some (.slice e)) (hsz : sizeT P e = some k.n) (hx : Ev l x v)
    (hlo : match lo with | some o => ∃ kk, Ev l o (.int kk lo') | none => lo' = 0) (hhi : match hi with | some o => ∃ kk, Ev l o (.int kk hi') | none => hi' = xs.length) (hy : sub xs lo' hi' = some ys) : Rd P N c (.slice t x lo hi none) l L (slc v k.n lo'.toNat hi'.toNat) := fun op a w ho he hst => by
  obtain ⟨R, A, cap, rfl, g1, g2, _⟩ := hs w hst
  obtain ⟨h0, h1, h2, rfl⟩ := sub_some hy
  have hb : ∀ (k : IntKind) (i : Int) (n : Nat) (cd : BoundsCode), 0 ≤ i → i ≤ n → (Instr.sliceBound (.int k i) n cd).run P w = .ok i.toNat w := fun k i n cd h h' => by simp [Instr.sliceBound, asIntOf, h, h']
  have hL : (Instr.sliceBounds true xs.length cap (lo.map a.eval) (hi.map a.eval) none).run P w = .ok (lo'.toNat, hi'.toNat, cap) w := by
    cases lo with
    | none =>
      cases hi with
      | none => simp only at hlo hhi; subst hlo hhi; simp [Instr.sliceBounds]
      | some o2 => obtain ⟨k2, e2⟩ := hhi; simp only at hlo; subst hlo; simp [Instr.sliceBounds, he.eval e2, hb k2 hi' cap _ (by omega) (by omega)]
    | some o1 =>
      obtain ⟨k1, e1⟩ := hlo
      cases hi with
      | none => simp only at hhi; subst hhi; simp [Instr.sliceBounds, he.eval e1, hb k1 lo' xs.length _ (by omega) (by omega)]
      | some o2 => obtain ⟨k2, e2⟩ := hhi; simp [Instr.sliceBounds, he.eval e1, he.eval e2, hb k2 hi' cap _ (by omega) (by omega), hb k1 lo' hi'.toNat _ (by omega) (by omega)]
  simp only [execOp, ho, he.eval hx, Instr.sliceAt, run_und ht, Sem.run_bind, Result.andThen_ok]
  simp [Instr.slice, run_und ht, hL, run_sizeOf hsz, slc]

/-! ### Literals -/
/-- The parts of a literal. -/
inductive EvP (l : List (Nat × Value)) : List (Nat × Operand) → List (Nat × Value) → Prop
  | n : EvP l [] []
  | c {i x v ps vs} : Ev l x v → EvP l ps vs → EvP l ((i, x) :: ps) ((i, v) :: vs)
theorem EvP.eq {D : List Deferred} {a : Act} {ps : List (Nat × Operand)} {vs : List (Nat × Value)} (h : EvP l ps vs) (he : Env N D a l) : ps.map (fun p => (p.1, a.eval p.2)) = vs := by
  induction h with
  | n => rfl
  | c h _ ih => simp [he.eval h, ih]
def fillL (place : Nat → Option (Nat × Nat)) (cells : List Value) : List (Nat × Value) → Option (List Value)
  | [] => some cells
  | (i, v) :: rest => match place i with
    | none => none
    | some (off, size) => match Nat.beq v.cells.toList.length size, Nat.ble (off + size) cells.length with
      | true, true => fillL place (cells.take off ++ (v.cells.toList ++ cells.drop (off + size))) rest
      | _, _ => none
theorem foldl_set : ∀ (vs : List Value) (off n : Nat) (cells : Array Value), off + n + vs.length ≤ cells.size → (vs.zipIdx n).foldl (fun cs p => cs.setIfInBounds (off + p.2) p.1) cells = (cells.toList.take (off + n) ++ (vs ++ cells.toList.drop (off + n + vs.length))).toArray
  | [], off, n, cells, h => by simp
  | v :: vs, off, n, cells, h => by
    simp only [List.zipIdx_cons, List.foldl_cons]
    rw [foldl_set vs off (n + 1) _ (by simp at h ⊢; omega)]
    apply Array.ext'
    simp only [List.length_cons] at h
    have hlt : off + n < cells.toList.length := by rw [Array.length_toList]; omega
    simp only [Array.toList_setIfInBounds]
    rw [show off + (n + 1) = off + n + 1 by omega, List.drop_set_of_lt (by omega), List.take_add_one, List.take_set_of_le (Nat.le_refl _), List.getElem?_set_self hlt]
    simp only [Option.toList_some, List.append_assoc, List.singleton_append, List.cons_append, List.nil_append, List.length_cons]
    rw [show off + n + 1 + vs.length = off + n + (vs.length + 1) by omega]
theorem fill_fillL (place : Nat → Option (Nat × Nat)) : ∀ (ps : List (Nat × Value)) (cells cs : List Value), fillL place cells ps = some cs → Instr.fill place cells.toArray ps = some cs.toArray
  | [], cells, cs, h => by simp [fillL] at h; simp [Instr.fill, h]
  | (i, v) :: rest, cells, cs, h => by
    simp only [fillL] at h
    cases hp : place i with
    | none => rw [hp] at h; simp at h
    | some q =>
      obtain ⟨off, size⟩ := q
      rw [hp] at h
      simp only at h
      split at h
      · rename_i h1 h2
        have h1' : v.cells.toList.length = size := Nat.eq_of_beq_eq_true h1
        have h2' : off + size ≤ cells.length := Nat.le_of_ble_eq_true h2
        have ih := fill_fillL place rest _ _ h
        have hsz : v.cells.size = size := by simpa using h1'
        have hfold := foldl_set v.cells.toList off 0 cells.toArray (by simp; omega)
        simp only [Instr.fill, hp]
        rw [if_neg (by simp [hsz]; omega)]
        have e : (v.cells.zipIdx.foldl (fun cs p => cs.setIfInBounds (off + p.2) p.1) cells.toArray) = (cells.take off ++ (v.cells.toList ++ cells.drop (off + size))).toArray := by
          rw [← Array.foldl_toList, Array.toList_zipIdx, hfold]
          simp [hsz]
        rw [← ih, ← e]
      · cases h
def placesOf (P : Program) (t : TypeId) : Option (List (Nat × Nat)) := match P.underlying t with
  | some (.struct fs) => fs.toList.mapM fun f => (sizeT P f.type).map fun n => (f.offset, n)
  | _ => none
theorem run_mapM_places {w : World} : ∀ (fs : List Field) (pl : List (Nat × Nat)), (fs.mapM fun f => (sizeT P f.type).map fun n => (f.offset, n)) = some pl → (fs.mapM fun f => (Prod.mk f.offset <$> sizeOf f.type : Sem (Nat × Nat))).run P w = .ok pl w
  | [], pl, h => by simp at h; subst h; rfl
  | f :: fs, pl, h => by
    simp only [List.mapM_cons] at h ⊢
    obtain ⟨q, hq, h⟩ := Option.bind_eq_some_iff.1 h
    obtain ⟨r, hr, h⟩ := Option.bind_eq_some_iff.1 h
    obtain ⟨n, hn, rfl⟩ := Option.map_eq_some_iff.1 hq
    cases h
    simp [run_sizeOf hn, run_mapM_places fs r hr]
theorem dBuild {t : TypeId} {ps : List (Nat × Operand)} {vs : List (Nat × Value)} {z : Value} {zs cs : List Value} {pl : List (Nat × Nat)} (hz : zeroT P t = some z) (hzs : z.cells = zs.toArray) (hp : placesOf P t = some pl) (he : EvP l ps vs) (hf : fillL (fun i => pl[i]?) zs vs = some cs) :
    Rd P N c (.build t ps.toArray) l L (.agg cs.toArray) := fun op a w ho henv hst => by
  have hvs := he.eq henv
  unfold placesOf at hp
  split at hp
  · rename_i fs hu
    have hfl := fill_fillL _ _ _ _ hf
    have hm := run_mapM_places (P := P) (w := w) _ _ hp
    have hm' : (fs.mapM fun f => (do pure (f.offset, ← sizeOf f.type) : Sem (Nat × Nat))).run P w = .ok pl.toArray w := by
      rw [Array.mapM_eq_mapM_toList]
      simp only [bind_pure_comp, Sem.run_map, hm]
      rfl
    simp only [execOp, ho, Instr.build, Sem.run_bind, run_zero hz, Result.andThen_ok, run_und hu]
    simp only [hm', Result.andThen_ok, hzs]
    have : (List.map (fun x => (x.fst, a.eval x.snd)) ps) = vs := hvs
    simp [this, hfl]
  · cases hp
end
end Go.Proofs.YtecipnjloenndaaDoor.SX
