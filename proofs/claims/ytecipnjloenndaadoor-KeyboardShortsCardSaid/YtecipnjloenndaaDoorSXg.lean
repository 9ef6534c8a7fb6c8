/-
Slices that are made and grown; calls; returns.
-/
import Derived.Test.YtecipnjloenndaaDoorSXf
set_option linter.unusedVariables false
set_option linter.unusedSimpArgs false
namespace Go.Proofs.YtecipnjloenndaaDoor.SX
open Go Go.RowKit

theorem len_flatten {n : Nat} : ∀ {css : List (List Value)}, (∀ cs ∈ css, cs.length = n) → css.flatten.length = css.length * n
  | [], _ => by simp
  | a :: l, h => by
    have ih := len_flatten (n := n) (css := l) fun cs hc => h cs (List.mem_cons_of_mem _ hc)
    rw [List.flatten_cons, List.length_append, ih, h a List.mem_cons_self, List.length_cons, Nat.succ_mul]; omega
theorem All2.ones {α : Type} {k : Kind α} {R : PH} {css : List (List Value)} {xs : List α} (h : All2 (k.rd R) css xs) : ∀ u ∈ css.flatten, u.oneCell' = true := by
  induction h with
  | nil => intro u hu; simp at hu
  | cons h _ ih =>
    intro u hu
    simp only [List.flatten_cons, List.mem_append] at hu
    rcases hu with hu | hu
    · exact k.one h u hu
    · exact ih u hu

section
variable {P : Program} {N : Nat} {c : Cx} {l : List (Nat × Value)} {L : List HE} {α : Type} {k : Kind α} {xs ys : List α} {v : Value}

/-- A new row of the call's own. -/
theorem St.newOwn {F R0 : PH} {w0 w : World} (hs : St F R0 w0 w L) {t : TypeId} {css : List (List Value)} {post : List Value} {cap : Nat} (hr : ∀ R h, sat R L h → All2 (k.rd R) css xs) (hcap : xs.length ≤ cap) (hm : cap ≤ maxLen) (hp : (cap - xs.length) * k.n ≤ post.length)
    {cells : Array Value} (hc : cells = (css.flatten ++ post).toArray) : St F R0 w0 (w.alloc (.cells cells t)) (.own (.slice (some ⟨w.heap.size, 0, none⟩) xs.length cap) t k xs :: L) := by
  subst hc
  obtain ⟨R, h, hsat, hle, hR, hd, h0, hfr⟩ := hs.ex
  have hblk := hs.blk (css.flatten ++ post) t
  have key : ∀ R h, sat R (.blk w.heap.size (css.flatten ++ post) t :: L) h → sat R (.own (.slice (some ⟨w.heap.size, 0, none⟩) xs.length cap) t k xs :: L) h := by
    rintro R h ⟨h1, h2, rfl, d, hsem, hrest⟩
    exact ⟨h1, h2, rfl, d, .inr ⟨w.heap.size, [], css, post, cap, (0, 0), rfl, hr R h2 hrest, hcap, hm, hp, frOk_zero _, hsem⟩, hrest⟩
  obtain ⟨R, h, hsat, rest⟩ := hblk.ex
  exact ⟨hblk.os, hblk.tape, hblk.output, hblk.size, R, h, key R h hsat, rest⟩
theorem cBuildSlice {t e te : TypeId} {n : Nat} {ps : List (Nat × Operand)} {vs : List (Nat × Value)} {z : Value} {css : List (List Value)} (ht : P.underlying t = some (.slice e)) (hsz : sizeT P e = some k.n) (hz : zeroT P e = some z) (hzl : z.cells.size = k.n) (hk : 0 < k.n)
    (hn : Nat.ble (n * k.n) 16777216 = true) (he : EvP l ps vs) (hf : fillL (fun i => some (i * k.n, k.n)) (List.replicate (n * k.n) undef) vs = some css.flatten) (hall : ∀ zs : List Value, zs.length = n * k.n → fillL (fun i => some (i * k.n, k.n)) zs vs = fillL (fun i => some (i * k.n, k.n)) (List.replicate (n * k.n) undef) vs)
    (hx : xs.length = n) (hr : ∀ R h, sat R L h → All2 (k.rd R) css xs) : Ch P N c (.buildSlice t n ps.toArray) l L (fun b => .slice (some ⟨b, 0, none⟩) n n) (fun b => .own (.slice (some ⟨b, 0, none⟩) n n) e k xs :: L) := fun o a w ho henv hs => by
  have hn' : n * k.n ≤ 16777216 := Nat.le_of_ble_eq_true hn
  have hnm : n ≤ maxLen := by
    have : n ≤ n * k.n := Nat.le_mul_of_pos_right _ hk
    unfold maxLen; omega
  have hst := hs.newOwn (t := e) (css := css) (post := []) (cap := n) hr (by omega) hnm (by simp [hx]) (cells := css.flatten.toArray) (by simp)
  rw [hx] at hst
  refine ⟨w.heap.size, _, ?_, hst⟩
  have hvs : (List.map (fun x => (x.fst, a.eval x.snd)) ps) = vs := he.eq henv
  simp only [execOp, ho, Instr.buildSlice, Sem.run_bind, run_und ht, Result.andThen_ok, run_sizeOf hsz]
  rw [if_neg (by omega)]
  have hfl : ∀ za : Array Value, za.size = n * k.n → Instr.fill (fun i => some (i * k.n, k.n)) za vs = some css.flatten.toArray := fun za hza => by
    have := fill_fillL _ _ _ _ ((hall za.toList (by simpa using hza)).trans hf)
    simpa using this
  by_cases h0 : n * k.n = 0
  · have := hfl ((Array.range (n * k.n)).map ((#[] : Array Value)[· % (#[] : Array Value).size]!)) (by simp)
    rw [if_pos h0]
    simp only [Sem.run_pure, Result.andThen_ok, hvs, List.map_toArray, this, Sem.run_bind, run_newRow]
  · have := hfl ((Array.range (n * k.n)).map (z.cells[· % z.cells.size]!)) (by simp)
    rw [if_neg h0]
    simp only [Sem.run_bind, run_zero hz, Sem.run_pure, Result.andThen_ok, hvs, List.map_toArray, this, run_newRow]

/-! ### append -/
def capGuard : Nat := 68719476736
/-- What append comes to, where it does not grow too much. -/
def app (xs ys : List α) : Option (List α) := if xs.length + ys.length ≤ capGuard then some (xs ++ ys) else none
theorem app_some {zs : List α} (h : app xs ys = some zs) : zs = xs ++ ys ∧ xs.length + ys.length ≤ 68719476736 := by
  unfold app capGuard at h
  split at h
  · rename_i h0; cases h; exact ⟨rfl, h0⟩
  · cases h
/-- What is appended: its length, and its cells, in whatever world. -/
structure Src (P : Program) (w : World) (x : Value) (size n : Nat) (news : List Value) : Prop where
  len : ∀ w', (Builtin.lenOf x).run P w' = .ok n w'
  cells : ∀ w', (∀ b, hp w' b = hp w b) → (Builtin.firstCells size n x).run P w' = .ok news.toArray w'
  size : news.length = n * size
theorem SlAt.src {R : PH} {w : World} (h : SlAt R w v k ys) : ∃ css, All2 (k.rd R) css ys ∧ Src P w v k.n ys.length css.flatten := by
  obtain ⟨A, cap, rfl, h1, h2, rfl | ⟨b, off, css, cells, t, fr, rfl, h3, h4, h5⟩⟩ := h
  · refine ⟨[], .nil, fun w' => by simp [Builtin.lenOf], fun w' _ => ?_, by simp⟩
    cases A with
    | none => simp [Builtin.firstCells]
    | some a => simp [Builtin.firstCells, loadCells, loadCellsFrom]
  · refine ⟨css, h3, fun w' => by simp [Builtin.lenOf], fun w' hw' => ?_, by rw [len_flatten h3.lens, h3.length]⟩
    exact run_firstCells_some w' k.n ys.length ⟨b, off, none⟩ ys.length cap css.flatten (by rw [len_flatten h3.lens, h3.length]) fun j u hj => by
      rw [add_none, cell_hp ((hw' b).trans h4)]; exact h5 j u hj
/-- Of an element type: cells, bytes, and how many cells its zero value has. -/
def elemInfo (P : Program) (t : TypeId) : Option (Nat × Nat × Nat) := (P.info? t).bind fun i => i.zero.map fun z => (i.size, i.bytes, z.cells.size)
theorem ownShape {F R0 : PH} {w0 w : World} {t : TypeId} {L1 : List HE} (hs : St F R0 w0 w (.own v t k xs :: L1)) : ∃ A cap, v = .slice A xs.length cap ∧ xs.length ≤ cap ∧ cap ≤ maxLen ∧ (A = none → cap = 0) := by
  obtain ⟨R, h, hsem, _⟩ := hs.cons_frame
  rcases hsem with ⟨rfl, rfl, _⟩ | ⟨b, pre, css, post, cap, fr, rfl, a2, a3, a4, _⟩
  · exact ⟨none, 0, rfl, Nat.le_refl _, Nat.zero_le _, fun _ => rfl⟩
  · exact ⟨_, cap, rfl, a3, a4, fun h => by cases h⟩
def isIntD (d : TypeDesc) : Bool := match d with | .int _ => true | _ => false
theorem run_append_room2 {w w' : World} {t1 t2 e ty : TypeId} {d2 : TypeDesc} {A : Option Addr} {n m cap size : Nat} {x : Value} {news : List Value} (ht : P.underlying t1 = some (.slice e)) (ht2 : P.underlying t2 = some d2) (hd2 : isIntD d2 = false)
    (hsz : sizeT P e = some size) (hl : (Builtin.lenOf x).run P w = .ok m w) (hc : (Builtin.firstCells size m x).run P w = .ok news.toArray w) (hroom : n + m ≤ cap)
    (hst : (match A with | some a => (storeCells (a.add (n * size)) news).run P w | none => .ok () w) = .ok () w') : (Builtin.append_ #[t1, t2] ty #[.slice A n cap, x]).run P w = .ok (.slice A (n + m) cap) w' := by
  cases d2 <;> first | (exact Bool.noConfusion (show true = false from hd2)) | skip
  all_goals
    simp only [Builtin.append_, List.getElem?_toArray, List.getElem?_cons_zero, List.getElem?_cons_succ, Sem.run_bind, run_und ht, run_und ht2, Result.andThen_ok, run_sizeOf hsz, Sem.run_pure, Bool.false_eq_true, if_false, hl, Bool.not_false, if_true, hc]
    rw [if_pos hroom]
    cases A with
    | none => simp only at hst; cases hst; simp [hc]
    | some a => simp only at hst; simp [hc, hst]
theorem run_append_grow2 {w : World} {t1 t2 e ty : TypeId} {d2 : TypeDesc} {A : Option Addr} {n m cap size bytes : Nat} {x z : Value} {olds news : List Value} (ht : P.underlying t1 = some (.slice e)) (ht2 : P.underlying t2 = some d2) (hd2 : isIntD d2 = false)
    {i : TypeInfo} (hi : P.info? e = some i) (hi1 : i.size = size) (hi2 : i.bytes = bytes) (hz : i.zero = some z) (hl : (Builtin.lenOf x).run P w = .ok m w) (hc : (Builtin.firstCells size m x).run P w.drew = .ok news.toArray w.drew) (ho : (Builtin.firstCells size n (.slice A n cap)).run P w.drew = .ok olds.toArray w.drew)
    (hroom : cap < n + m) (h63 : n + m ≤ 9223372036854775807) (hfit : Builtin.nextslicecap (n + m) cap * bytes ≤ 281474976710656) :
    (Builtin.append_ #[t1, t2] ty #[.slice A n cap, x]).run P w = .ok (.slice (some ⟨w.heap.size, 0, none⟩) (n + m) (grownCap w (n + m) cap e)) (w.drew.alloc (.cells (olds.toArray ++ news.toArray ++ Builtin.zeroCells z.cells (grownCap w (n + m) cap e - (n + m))) e)) := by
  subst hi1 hi2
  have hsz : sizeT P e = some i.size := by simp [sizeT, hi]
  have hn : ¬ (n + m ≤ cap) := by omega
  have hti : ∀ w, (typeInfo e).run P w = .ok i w := fun w => by simp [typeInfo, hi]
  have hzv : ∀ w, (zeroValue e).run P w = .ok z w := fun w => run_zero (by simp [zeroT, hi, hz]) w
  have hch : (choose (.appendCap (n + m) cap e)).run P w = .ok (grownCap w (n + m) cap e) w.drew := by simp [Question.forced, grownCap]
  cases d2 <;> first | (exact Bool.noConfusion (show true = false from hd2)) | skip
  all_goals
    simp only [Builtin.append_, List.getElem?_toArray, List.getElem?_cons_zero, List.getElem?_cons_succ, Sem.run_bind, run_und ht, run_und ht2, Result.andThen_ok, run_sizeOf hsz, Sem.run_pure, Bool.false_eq_true, if_false, hl, Bool.not_false, if_true]
    rw [if_neg hn]
    simp only [Sem.run_bind, hti, Result.andThen_ok]
    rw [if_neg (by simp [IntKind.max, IntKind.signed, IntKind.bits]; omega)]
    simp only [Sem.run_bind, hti, Result.andThen_ok]
    rw [if_neg (by omega)]
    simp only [Sem.run_bind, hch, Result.andThen_ok, run_askRoom, hti, ho, hc, hzv, run_newRow, Sem.run_pure]
    rfl
theorem St.fresh {R h : PH} {w : World} {e : HE} {o : Obj} {n : Nat} (hf : Fit R h w) (he : e.sem R (PH.one w.heap.size o)) : St h R w ((w.drewN n).alloc o) [e] := by
  have hRn : R w.heap.size = none := by
    cases hh : R w.heap.size with
    | none => rfl
    | some x => exact absurd (hp_lt (hf.R_le _ _ hh)) (Nat.lt_irrefl _)
  refine ⟨rfl, rfl, rfl, by simp, R, PH.one w.heap.size o, ⟨_, PH.emp, (PH.un_emp _).symm, PH.dis_emp _, he, rfl⟩, PH.one_le ?_, PH.le_trans hf.R_le (hp_alloc_le (w.drewN n) o), fun i => ?_, PH.le_refl R, fun i hi hF => ?_⟩
  · show (w.heap.push o)[w.heap.size]? = _
    simp
  · by_cases k : i = w.heap.size
    · subst k; exact .inr hRn
    · exact .inl (PH.one_other _ k)
  · exact ⟨Below.heap_alloc (w.drewN n) o i hi, PH.one_other _ (by omega), rfl⟩
/-- Of an element type: cells, bytes, and how many cells its zero value has. -/
theorem ownAppend {F R0 : PH} {w0 w : World} {t t1 t2 ty : TypeId} {L1 : List HE} {x : Value} {d2 : TypeDesc} {nb : Nat} {zs : List α} (hs : St F R0 w0 w (.own v t k xs :: L1))
    (hx : ∃ news, Src P w x k.n ys.length news ∧ (∀ u ∈ news, u.oneCell' = true) ∧ ∀ R h, sat R L1 h → R.le (hp w) → h.le (hp w) → ∃ css', news = css'.flatten ∧ All2 (k.rd R) css' ys) (ht : P.underlying t1 = some (.slice t)) (ht2 : P.underlying t2 = some d2) (hd2 : isIntD d2 = false)
    (hi : elemInfo P t = some (k.n, nb, k.n)) (hnb : nb ≤ 2048) (hk : 0 < k.n) (hz : app xs ys = some zs) :
    ∃ v' w', (Builtin.append_ #[t1, t2] ty #[v, x]).run P w = .ok v' w' ∧ St F R0 w0 w' (.own v' t k zs :: L1) := by
  obtain ⟨rfl, hlen⟩ := app_some hz
  obtain ⟨news, hsrc, hone, hcss⟩ := hx
  obtain ⟨i, hinf, hi'⟩ := Option.bind_eq_some_iff.1 hi
  obtain ⟨z, hiz, hi''⟩ := Option.map_eq_some_iff.1 hi'
  simp only [Prod.mk.injEq] at hi''
  obtain ⟨e1, e2, e3⟩ := hi''
  obtain ⟨A, cap, rfl, hcap, hcm, hAc⟩ := ownShape hs
  have hszT : sizeT P t = some k.n := by simp [sizeT, hinf, e1]
  by_cases hroom : xs.length + ys.length ≤ cap
  · obtain ⟨R, h, hsem, ⟨hb, hsb, hble⟩, hf, kk⟩ := hs.modify2
    obtain ⟨css', hnews, hall'⟩ := hcss R hb hsb hf.R_le hble
    subst hnews
    have hcl' := hall'.length
    rcases hsem with ⟨hv, rfl, rfl⟩ | ⟨b, pre, css, post, cap', fr, hv, a2, a3, a4, a5, a6, rfl⟩
    · cases hv
      have hy0 : ys = [] := List.eq_nil_of_length_eq_zero (by simpa using hroom)
      subst hy0
      exact ⟨_, _, run_append_room2 ht ht2 hd2 hszT (hsrc.len w) (hsrc.cells w fun _ => rfl) hroom rfl, by simpa using hs⟩
    · cases hv
      have hbb : hp w b = some (.cells (pre ++ (css.flatten ++ post)).toArray t fr) := hf.h_le _ _ (PH.one_same _ _)
      have hfl : css.flatten.length = xs.length * k.n := by rw [len_flatten a2.lens, a2.length]
      have hnl : css'.flatten.length = ys.length * k.n := hsrc.size
      have hpl : ys.length * k.n ≤ post.length := Nat.le_trans (Nat.mul_le_mul_right _ (by omega)) a5
      have htot : (pre ++ (css.flatten ++ post)).length = pre.length + (xs.length * k.n + post.length) := by simp only [List.length_append, hfl]
      have hst := run_storeCells_cells (P := P) b (pre.length + xs.length * k.n) css'.flatten 0 w (fun j hj => by rw [cell_hp hbb, List.getElem?_toArray, List.getElem?_eq_getElem (by rw [htot]; omega)]; rfl)
        (fun j hj => by
          rw [frozen_hp hbb]
          have := a6 (pre.length + xs.length * k.n + 0 + j) (by rw [htot]; omega)
          simp at this ⊢; omega) hone
      simp only [Nat.add_zero] at hst
      have hbb2 : pre ++ (css.flatten ++ post) = (pre ++ css.flatten) ++ (post.take css'.flatten.length ++ post.drop css'.flatten.length) := by rw [List.take_append_drop, List.append_assoc]
      have hnew := hp_setCells css'.flatten (pre.length + xs.length * k.n) w (pre ++ css.flatten) (post.take css'.flatten.length) (post.drop css'.flatten.length) (t := t) (fr := fr) (by rw [← hbb2]; exact hbb) (by rw [List.length_append, hfl]) (by rw [List.length_take, hnl]; omega)
      have hfin : (pre ++ css.flatten) ++ (css'.flatten ++ post.drop css'.flatten.length) = pre ++ ((css ++ css').flatten ++ post.drop css'.flatten.length) := by simp only [List.flatten_append, List.append_assoc]
      rw [hfin] at hnew
      obtain ⟨s1, s2, s3, s4⟩ := setCells_same b css'.flatten (pre.length + xs.length * k.n) w
      refine ⟨_, w.setCells b (pre.length + xs.length * k.n) css'.flatten, run_append_room2 ht ht2 hd2 hszT (hsrc.len w) (hsrc.cells w fun _ => rfl) hroom (by simp only [add_none]; exact hst), ?_⟩
      refine kk _ _ b _ (fun i hi => PH.one_other _ hi) (by rw [PH.one_same]; simp) (.inr ⟨b, pre, css ++ css', post.drop css'.flatten.length, cap, fr, by rw [List.length_append], a2.append hall', by rw [List.length_append]; exact hroom, a4, ?_, ?_, rfl⟩) s4 hnew (fun i hi => setCells_far _ _ i hi) s1 s2 s3
      · have hm : (cap - (xs ++ ys).length) * k.n + ys.length * k.n ≤ (cap - xs.length) * k.n := by
          rw [← Nat.add_mul]; exact Nat.mul_le_mul_right _ (by rw [List.length_append]; omega)
        rw [List.length_drop, hnl]; omega
      · have : (pre ++ ((css ++ css').flatten ++ post.drop css'.flatten.length)).length = (pre ++ (css.flatten ++ post)).length := by
          rw [htot, ← hfin]; simp only [List.length_append, hfl, hnl, List.length_drop]; omega
        rw [this]; exact a6
  · have hneed : cap < xs.length + ys.length := by omega
    have hfit : Builtin.nextslicecap (xs.length + ys.length) cap * nb ≤ 281474976710656 := growslice_fits hneed (Nat.le_trans (Nat.mul_le_mul hlen hnb) (by decide))
    obtain ⟨R, h, hsem, ⟨hb, hsb, hble⟩, hf, kk⟩ := hs.frame2
    obtain ⟨css', hnews, hall'⟩ := hcss R hb hsb hf.R_le hble
    subst hnews
    have hslv : SlAt R w (.slice A xs.length cap) k xs := by
      rcases hsem with ⟨hv, rfl, _⟩ | ⟨b, pre, css, post, cap', fr, hv, a2, a3, a4, a5, a6, rfl⟩
      · cases hv; exact ⟨none, 0, rfl, Nat.le_refl _, Nat.zero_le _, .inl rfl⟩
      · cases hv
        refine ⟨_, _, rfl, a3, a4, .inr ⟨b, pre.length, css, _, t, fr, rfl, a2, hf.h_le _ _ (PH.one_same _ _), fun j u hj => ?_⟩⟩
        have hlt := (List.getElem?_eq_some_iff.1 hj).1
        simp only [List.getElem?_toArray]
        rw [List.getElem?_append_right (by omega), Nat.add_sub_cancel_left, List.getElem?_append_left hlt]
        exact hj
    obtain ⟨css, hall, hsv⟩ := hslv.src (P := P)
    have hgc := grownCap_ge w (xs.length + ys.length) cap t
    have hgm := grownCap_le_maxLen w (xs.length + ys.length) cap t (by unfold maxLen; omega)
    refine ⟨_, _, run_append_grow2 ht ht2 hd2 hinf e1 e2 hiz (hsrc.len w) (hsrc.cells w.drew fun _ => rfl) (hsv.cells w.drew fun _ => rfl) hneed (by omega) hfit, ?_⟩
    have hfr : (HE.own (.slice (some ⟨w.heap.size, 0, none⟩) (xs.length + ys.length) (grownCap w (xs.length + ys.length) cap t)) t k (xs ++ ys)).sem R (PH.one w.heap.size (.cells (css.flatten.toArray ++ css'.flatten.toArray ++ Builtin.zeroCells z.cells (grownCap w (xs.length + ys.length) cap t - (xs.length + ys.length))) t)) := by
      refine .inr ⟨w.heap.size, [], css ++ css', (Builtin.zeroCells z.cells (grownCap w (xs.length + ys.length) cap t - (xs.length + ys.length))).toList, grownCap w (xs.length + ys.length) cap t, (0, 0), by rw [List.length_append]; rfl, hall.append hall', by rw [List.length_append]; exact hgc, hgm, ?_, frOk_zero _, ?_⟩
      · have hzl : ∀ n, (Builtin.zeroCells z.cells n).toList.length = n * k.n := fun n => by simp [size_zeroCells, e3]
        rw [hzl, List.length_append]; exact Nat.le_refl _
      · congr 2
        apply Array.ext'
        simp
    exact kk _ _ (St.fresh (n := 1) hf hfr)
/-- A slice that is told of by an assertion, as a source. -/
def SrcE (P : Program) (c : Cx) (L : List HE) (x : Value) (k : Kind α) (ys : List α) : Prop := ∀ w, St c.F c.R0 c.w0 w L →
  ∃ news, Src P w x k.n ys.length news ∧ (∀ u ∈ news, u.oneCell' = true) ∧ ∀ R h, sat R L h → R.le (hp w) → h.le (hp w) → ∃ css', news = css'.flatten ∧ All2 (k.rd R) css' ys
theorem srcRo {x : Value} {L' : List HE} (r : Rem (.ro (kSl k) [x] ys) L L') : SrcE P c L x k ys := fun w hs => by
  obtain ⟨R, hsl⟩ := slRo r w hs
  obtain ⟨css, hall, hsrc⟩ := hsl.src (P := P)
  refine ⟨css.flatten, hsrc, hall.ones, fun R' h' hsat hR hh => ?_⟩
  obtain ⟨A, cap, he, h1, h2, h3⟩ := roAt r hsat
  cases he
  rcases h3 with rfl | ⟨b, off, css', cells, t, fr, rfl, a2, a3, a4⟩
  · have : css = [] := List.eq_nil_of_length_eq_zero (by rw [hall.length]; rfl)
    subst this
    exact ⟨[], rfl, .nil⟩
  · refine ⟨css', ?_, a2⟩
    obtain ⟨A', cap', he', _, _, hy | ⟨b', off', css2, cells', t', fr', he2, b2, b3, b4⟩⟩ := hsl
    · subst hy
      have e1 : css = [] := List.eq_nil_of_length_eq_zero (by rw [hall.length]; rfl)
      have e2 : css' = [] := List.eq_nil_of_length_eq_zero (by rw [a2.length]; rfl)
      rw [e1, e2]
    · cases he'
      cases he2
      have hc := hsrc.cells w fun _ => rfl
      have hc2 := run_firstCells_some (P := P) w k.n ys.length ⟨b, off, none⟩ ys.length cap css'.flatten (by rw [len_flatten a2.lens, a2.length]) fun j u hj => by
        rw [add_none, cell_hp (hR _ _ a3)]; exact a4 j u hj
      rw [hc2] at hc
      injection hc with hc
      exact (List.toArray_inj hc).symm
theorem srcOwn {x : Value} {t : TypeId} {L' : List HE} (r : Rem (.own x t k ys) L L') : SrcE P c L x k ys := fun w hs => by
  obtain ⟨R, hsl⟩ := slOwn r w hs
  obtain ⟨css, hall, hsrc⟩ := hsl.src (P := P)
  refine ⟨css.flatten, hsrc, hall.ones, fun R' h' hsat hR hh => ?_⟩
  obtain ⟨h1, h2, rfl, d, hsem, _⟩ := r.iff.1 hsat
  rcases hsem with ⟨rfl, rfl, rfl⟩ | ⟨b, pre, css', post, cap', fr, rfl, a2, a3, a4, a5, a6, rfl⟩
  · have : css = [] := List.eq_nil_of_length_eq_zero (by rw [hall.length]; rfl)
    subst this
    exact ⟨[], rfl, .nil⟩
  · refine ⟨css', ?_, a2⟩
    have hbb := hh _ _ (PH.le_un_left _ _ _ _ (PH.one_same b _))
    have hc := hsrc.cells w fun _ => rfl
    have hc2 := run_firstCells_some (P := P) w k.n ys.length ⟨b, pre.length, none⟩ ys.length cap' css'.flatten (by rw [len_flatten a2.lens, a2.length]) fun j u hj => by
      rw [add_none, cell_hp hbb, List.getElem?_toArray, List.getElem?_append_right (by omega), Nat.add_sub_cancel_left, List.getElem?_append_left (List.getElem?_eq_some_iff.1 hj).1]; exact hj
    rw [hc2] at hc
    injection hc with hc
    exact (List.toArray_inj hc).symm
/-! Base kinds -/
def kI (q : IntKind) : Kind Int := Kind.flat 1 (fun x => [.int q x]) (fun _ => rfl) fun x c h => by simp at h; subst h; rfl
def kB : Kind UInt8 := Kind.flat 1 (fun x => [vB x]) (fun _ => rfl) fun x c h => by simp at h; subst h; rfl
def kBool : Kind Bool := Kind.flat 1 (fun x => [.bool x]) (fun _ => rfl) fun x c h => by simp at h; subst h; rfl
def kS : Kind (List UInt8) := Kind.flat 1 (fun x => [vS x]) (fun _ => rfl) fun x c h => by simp at h; subst h; rfl
theorem rows_kB (R : PH) : ∀ xs : List UInt8, All2 (kB.rd R) (xs.map fun x => [vB x]) xs
  | [] => .nil
  | x :: xs => .cons rfl (rows_kB R xs)
theorem flat_vB : ∀ s : List UInt8, s.map vB = (s.map fun x => [vB x]).flatten
  | [] => rfl
  | a :: s => by simp [flat_vB s]
theorem rows_flat {β : Type} {n : Nat} {enc : β → List Value} {hl : ∀ x, (enc x).length = n} {h1 : ∀ x, ∀ c ∈ enc x, c.oneCell' = true} (R : PH) : ∀ xs : List β, All2 ((Kind.flat n enc hl h1).rd R) (xs.map enc) xs
  | [] => .nil
  | x :: xs => .cons rfl (rows_flat R xs)
theorem srcStr {s : List UInt8} : SrcE P c L (vS s) kB s := fun w hs => by
  have hsz : (⟨s.toArray⟩ : ByteArray).size = s.length := by simp [ByteArray.size]
  refine ⟨s.map vB, ⟨fun w' => by simp [Builtin.lenOf, vS, hsz], fun w' _ => ?_, by simp [kB, Kind.flat]⟩, fun u hu => ?_, fun R h _ _ _ => ⟨s.map fun x => [vB x], flat_vB s, rows_kB R s⟩⟩
  · have he : (⟨s.toArray⟩ : ByteArray).extract 0 s.length = ⟨s.toArray⟩ := by
      apply ByteArray.ext
      rw [ByteArray.data_extract]
      simp
    simp [Builtin.firstCells, vS, he]
    exact fun _ _ => rfl
  · obtain ⟨y, _, rfl⟩ := List.mem_map.1 hu
    rfl
theorem cAppend {t t1 t2 : TypeId} {s x : Operand} {vx : Value} {d2 : TypeDesc} {nb : Nat} {zs : List α} {L1 : List HE} (r : Rem (.own v t k xs) L L1) (hx : SrcE P c L1 vx k ys) (hs : Ev l s v) (hxv : Ev l x vx) (ht : P.underlying t1 = some (.slice t)) (ht2 : P.underlying t2 = some d2) (hd2 : isIntD d2 = false)
    (hi : elemInfo P t = some (k.n, nb, k.n)) (hnb : Nat.ble nb 2048 = true) (hk : 0 < k.n) (hz : app xs ys = some zs) : Ch P N c (.call { callee := .builtin .append, args := #[s, x], argTypes := #[t1, t2] }) l L (fun v' => v') (fun v' => .own v' t k zs :: L1) := fun o a w ho he hst => by
  have hst' := hst.rem r
  obtain ⟨v', w', hrun, hs'⟩ := ownAppend (ty := o.type) hst' (hx w hst'.drop) ht ht2 hd2 hi (Nat.le_of_ble_eq_true hnb) hk hz
  refine ⟨v', w', ?_, hs'⟩
  simp [execOp, ho, resolve, invoke, builtin, he.eval hs, he.eval hxv, hrun]
end
end Go.Proofs.YtecipnjloenndaaDoor.SX
