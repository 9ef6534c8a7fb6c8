/-
The frame: a world is described by a list of assertions (blocks that are held, slices that are held, things that are only read).
-/
import Derived.WalkKit
import Derived.LoopN
import Derived.Deep.QuietTactic
import Derived.OrdersHeld
import Derived.StillTail
set_option linter.unusedVariables false
set_option linter.unusedSimpArgs false
namespace Go.Proofs.YtecipnjloenndaaDoor.SX
open Go Go.RowKit

/-! ### Partial heaps -/
abbrev PH := Nat → Option Obj
namespace PH
def le (a b : PH) : Prop := ∀ i o, a i = some o → b i = some o
def emp : PH := fun _ => none
def one (b : Nat) (o : Obj) : PH := fun i => if i = b then some o else none
def un (a b : PH) : PH := fun i => (a i).or (b i)
def dis (a b : PH) : Prop := ∀ i, a i = none ∨ b i = none
theorem le_refl (a : PH) : le a a := fun _ _ h => h
theorem le_trans {a b c : PH} (h : le a b) (k : le b c) : le a c := fun i o e => k i o (h i o e)
theorem le_emp (a : PH) : le emp a := fun i o h => by simp [emp] at h
theorem dis_emp (a : PH) : dis a emp := fun i => .inr rfl
theorem emp_dis (a : PH) : dis emp a := fun i => .inl rfl
theorem dis_symm {a b : PH} (h : dis a b) : dis b a := fun i => (h i).symm
theorem un_emp (a : PH) : un a emp = a := by funext i; simp [un, emp]
theorem emp_un (a : PH) : un emp a = a := by funext i; simp [un, emp]
theorem un_comm {a b : PH} (h : dis a b) : un a b = un b a := by
  funext i; rcases h i with e | e <;> simp [un, e]
theorem un_assoc (a b c : PH) : un (un a b) c = un a (un b c) := by funext i; simp [un, Option.or_assoc]
theorem le_un_left (a b : PH) : le a (un a b) := fun i o h => by simp [un, h]
theorem le_un_right {a b : PH} (h : dis a b) : le b (un a b) := fun i o e => by
  rcases h i with k | k
  · simp [un, k, e]
  · rw [k] at e; cases e
theorem un_le {a b c : PH} (h : le a c) (k : le b c) : le (un a b) c := fun i o e => by
  cases ha : a i with
  | none => exact k i o (by simpa [un, ha] using e)
  | some x => exact h i o (by rw [ha]; simpa [un, ha] using e)
theorem dis_un {a b c : PH} : dis (un a b) c ↔ dis a c ∧ dis b c := by
  constructor
  · intro h
    refine ⟨fun i => ?_, fun i => ?_⟩
    · rcases h i with k | k
      · exact .inl (by simp [un] at k; exact k.1)
      · exact .inr k
    · rcases h i with k | k
      · exact .inl (by simp [un] at k; exact k.2)
      · exact .inr k
  · rintro ⟨h, k⟩ i
    rcases h i with e | e
    · rcases k i with f | f
      · exact .inl (by simp [un, e, f])
      · exact .inr f
    · exact .inr e
theorem dis_un' {a b c : PH} : dis a (un b c) ↔ dis a b ∧ dis a c :=
  ⟨fun h => let h := dis_un.1 (dis_symm h); ⟨dis_symm h.1, dis_symm h.2⟩, fun h => dis_symm (dis_un.2 ⟨dis_symm h.1, dis_symm h.2⟩)⟩
theorem un_none {a b : PH} {i : Nat} : un a b i = none ↔ a i = none ∧ b i = none := by simp [un]
theorem one_same (b : Nat) (o : Obj) : one b o b = some o := by simp [one]
theorem one_other {b i : Nat} (o : Obj) (h : i ≠ b) : one b o i = none := by simp [one, h]
theorem one_le {b : Nat} {o : Obj} {c : PH} (h : c b = some o) : le (one b o) c := fun i x e => by
  by_cases k : i = b
  · subst k; rw [one_same] at e; cases e; exact h
  · rw [one_other _ k] at e; cases e
end PH

/-- The world's heap as a partial one. -/
def hp (w : World) : PH := fun i => w.heap[i]?
theorem hp_lt {w : World} {i : Nat} {o : Obj} (h : hp w i = some o) : i < w.heap.size := (Array.getElem?_eq_some_iff.1 h).1
theorem hp_ge {w : World} {i : Nat} (h : w.heap.size ≤ i) : hp w i = none := by simp [hp, h]

/-! ### Kinds: how cells read as data -/
structure Kind (α : Type) where
  n : Nat
  rd : PH → List Value → α → Prop
  mono : ∀ {R R' : PH} {cs : List Value} {x : α}, R.le R' → rd R cs x → rd R' cs x
  len : ∀ {R : PH} {cs : List Value} {x : α}, rd R cs x → cs.length = n
  one : ∀ {R : PH} {cs : List Value} {x : α}, rd R cs x → ∀ c ∈ cs, c.oneCell' = true

/-- A kind whose cells are a function of the datum. -/
def Kind.flat {α : Type} (n : Nat) (enc : α → List Value) (hl : ∀ x, (enc x).length = n) (h1 : ∀ x, ∀ c ∈ enc x, c.oneCell' = true) : Kind α where
  n := n
  rd _ cs x := cs = enc x
  mono _ h := h
  len h := by rw [h]; exact hl _
  one h := by rw [h]; exact h1 _

/-! ### Assertions -/
inductive All2 {α β : Type} (p : α → β → Prop) : List α → List β → Prop
  | nil : All2 p [] []
  | cons {a b as bs} : p a b → All2 p as bs → All2 p (a :: as) (b :: bs)
namespace All2
variable {α β : Type} {p q : α → β → Prop}
theorem length {as : List α} {bs : List β} (h : All2 p as bs) : as.length = bs.length := by
  induction h with
  | nil => rfl
  | cons _ _ ih => simp [ih]
theorem imp {as : List α} {bs : List β} (h : All2 p as bs) (k : ∀ a b, p a b → q a b) : All2 q as bs := by
  induction h with
  | nil => exact .nil
  | cons h _ ih => exact .cons (k _ _ h) ih
theorem get {as : List α} {bs : List β} (h : All2 p as bs) : ∀ {i : Nat} {b : β}, bs[i]? = some b → ∃ a, as[i]? = some a ∧ p a b := by
  induction h with
  | nil => intro i b h; simp at h
  | cons h _ ih =>
    intro i b hb
    cases i with
    | zero => simp at hb; subst hb; exact ⟨_, rfl, h⟩
    | succ i => simpa using ih (by simpa using hb)
theorem append {as as' : List α} {bs bs' : List β} (h : All2 p as bs) (k : All2 p as' bs') : All2 p (as ++ as') (bs ++ bs') := by
  induction h with
  | nil => exact k
  | cons h _ ih => exact .cons h ih
theorem set {as : List α} {bs : List β} (h : All2 p as bs) {a : α} {b : β} (hab : p a b) : ∀ i, All2 p (as.set i a) (bs.set i b) := by
  induction h with
  | nil => intro i; exact .nil
  | cons h t ih =>
    intro i
    cases i with
    | zero => exact .cons hab t
    | succ i => exact .cons h (ih i)
theorem take {as : List α} {bs : List β} (h : All2 p as bs) : ∀ n, All2 p (as.take n) (bs.take n) := by
  induction h with
  | nil => intro n; simp; exact .nil
  | cons h t ih =>
    intro n
    cases n with
    | zero => exact .nil
    | succ n => exact .cons h (ih n)
theorem drop {as : List α} {bs : List β} (h : All2 p as bs) : ∀ n, All2 p (as.drop n) (bs.drop n) := by
  induction h with
  | nil => intro n; simp; exact .nil
  | cons h t ih =>
    intro n
    cases n with
    | zero => exact .cons h t
    | succ n => exact ih n
end All2

inductive HE : Type 1
  | blk (b : Nat) (cs : List Value) (t : TypeId)
  | own {α : Type} (v : Value) (t : TypeId) (k : Kind α) (xs : List α)
  | ro {α : Type} (k : Kind α) (cs : List Value) (x : α)
  | obj (b : Nat) (o : Obj)

/-- No cell of so many is frozen. -/
def frOk (n : Nat) (fr : Nat × Nat) : Prop := ∀ j, j < n → ¬ (fr.1 ≤ j ∧ j < fr.2)
theorem frOk_zero (n : Nat) : frOk n (0, 0) := fun j _ h => by omega
def ownsRow {α : Type} (R : PH) (v : Value) (t : TypeId) (k : Kind α) (xs : List α) (h : PH) : Prop :=
  (v = .slice none 0 0 ∧ xs = [] ∧ h = PH.emp) ∨
  ∃ b pre css post cap fr, v = .slice (some ⟨b, pre.length, none⟩) xs.length cap ∧ All2 (k.rd R) css xs ∧ xs.length ≤ cap ∧ cap ≤ maxLen ∧ (cap - xs.length) * k.n ≤ post.length ∧
    frOk (pre ++ (css.flatten ++ post)).length fr ∧ h = PH.one b (.cells (pre ++ (css.flatten ++ post)).toArray t fr)

def HE.sem (R : PH) : HE → PH → Prop
  | .blk b cs t, h => h = PH.one b (.cells cs.toArray t (0, 0))
  | .own v t k xs, h => ownsRow R v t k xs h
  | .ro k cs x, h => h = PH.emp ∧ k.rd R cs x
  | .obj b o, h => h = PH.one b o ∧ (match o with | .cells .. => False | _ => True)

theorem HE.sem_mono {R R' : PH} (hR : R.le R') : ∀ {e : HE} {h : PH}, e.sem R h → e.sem R' h
  | .blk .., _, h => h
  | .own .., _, h => by
    rcases h with h | ⟨b, pre, css, post, cap, fr, h1, h2, h3⟩
    · exact .inl h
    · exact .inr ⟨b, pre, css, post, cap, fr, h1, h2.imp fun _ _ h => Kind.mono _ hR h, h3⟩
  | .ro .., _, h => ⟨h.1, Kind.mono _ hR h.2⟩
  | .obj .., _, h => h

def sat (R : PH) : List HE → PH → Prop
  | [], h => h = PH.emp
  | e :: L, h => ∃ h1 h2, h = h1.un h2 ∧ h1.dis h2 ∧ e.sem R h1 ∧ sat R L h2

theorem sat_mono {R R' : PH} (hR : R.le R') : ∀ {L : List HE} {h : PH}, sat R L h → sat R' L h
  | [], _, h => h
  | _ :: _, _, ⟨h1, h2, e, d, s, r⟩ => ⟨h1, h2, e, d, HE.sem_mono hR s, sat_mono hR r⟩

theorem sat_append {R : PH} : ∀ {A B : List HE} {h : PH}, sat R (A ++ B) h ↔ ∃ h1 h2, h = h1.un h2 ∧ h1.dis h2 ∧ sat R A h1 ∧ sat R B h2
  | [], B, h => by
    constructor
    · exact fun k => ⟨PH.emp, h, (PH.emp_un h).symm, PH.emp_dis h, rfl, k⟩
    · rintro ⟨h1, h2, rfl, d, e, k⟩
      have : h1 = PH.emp := e
      subst this
      rw [PH.emp_un]; exact k
  | e :: A, B, h => by
    constructor
    · rintro ⟨h1, h2, rfl, d, s, r⟩
      obtain ⟨h3, h4, rfl, d', sa, sb⟩ := sat_append.1 r
      obtain ⟨d1, d2⟩ := PH.dis_un'.1 d
      exact ⟨h1.un h3, h4, (PH.un_assoc ..).symm, PH.dis_un.2 ⟨d2, d'⟩, ⟨h1, h3, rfl, d1, s, sa⟩, sb⟩
    · rintro ⟨h1, h2, rfl, d, ⟨h3, h4, rfl, d', s, sa⟩, sb⟩
      obtain ⟨d1, d2⟩ := PH.dis_un.1 d
      exact ⟨h3, h4.un h2, PH.un_assoc .., PH.dis_un'.2 ⟨d', d1⟩, s, sat_append.2 ⟨h4, h2, rfl, d2, sa, sb⟩⟩

/-- 'L' is 'L'' with 'e' put in somewhere. -/
inductive Rem : HE → List HE → List HE → Prop
  | z {e L} : Rem e (e :: L) L
  | s {e x L L'} : Rem e L L' → Rem e (x :: L) (x :: L')

theorem Rem.iff {R : PH} {e : HE} {L L' : List HE} (r : Rem e L L') : ∀ {h : PH}, sat R L h ↔ sat R (e :: L') h := by
  induction r with
  | z => exact Iff.rfl
  | @s x L L' r ih =>
    intro h
    constructor
    · rintro ⟨h1, h2, rfl, d, s, k⟩
      obtain ⟨h3, h4, rfl, d', s', k'⟩ := ih.1 k
      obtain ⟨d1, d2⟩ := PH.dis_un'.1 d
      refine ⟨h3, h1.un h4, ?_, PH.dis_un'.2 ⟨PH.dis_symm d1, d'⟩, s', h1, h4, rfl, d2, s, k'⟩
      rw [← PH.un_assoc, ← PH.un_assoc, PH.un_comm d1]
    · rintro ⟨h1, h2, rfl, d, s, h3, h4, rfl, d', s', k'⟩
      obtain ⟨d1, d2⟩ := PH.dis_un'.1 d
      refine ⟨h3, h1.un h4, ?_, PH.dis_un'.2 ⟨PH.dis_symm d1, d'⟩, s', ih.2 ⟨h1, h4, rfl, d2, s, k'⟩⟩
      rw [← PH.un_assoc, ← PH.un_assoc, PH.un_comm d1]

/-! ### The state of a call: the heap 'F' that it held at its beginning, what was only read then, and what holds now -/
structure St (F R0 : PH) (w0 w : World) (L : List HE) : Prop where
  os : w.os = w0.os
  tape : w.tape = w0.tape
  output : w.output = w0.output
  size : w0.heap.size ≤ w.heap.size
  ex : ∃ R h, sat R L h ∧ h.le (hp w) ∧ R.le (hp w) ∧ h.dis R ∧ R0.le R ∧
    ∀ i, i < w0.heap.size → F i = none → hp w i = hp w0 i ∧ h i = none ∧ R i = R0 i

structure Fit (R h : PH) (w : World) : Prop where
  h_le : h.le (hp w)
  R_le : R.le (hp w)
  dis : h.dis R

theorem St.start {R h : PH} {w : World} {L : List HE} (hs : sat R L h) (hf : Fit R h w) : St h R w w L :=
  ⟨rfl, rfl, rfl, Nat.le_refl _, R, h, hs, hf.h_le, hf.R_le, hf.dis, PH.le_refl R, fun _ _ hi => ⟨rfl, hi, rfl⟩⟩

/-- What a part of the state comes to, the whole comes to. -/
theorem St.frame {F R0 : PH} {w0 w : World} {A B : List HE} (hs : St F R0 w0 w (A ++ B)) :
    ∃ R h, sat R A h ∧ Fit R h w ∧ ∀ w' A', St h R w w' A' → St F R0 w0 w' (A' ++ B) := by
  obtain ⟨R, h, hsat, hle, hR, hd, h0, hfr⟩ := hs.ex
  obtain ⟨ha, hb, rfl, hdab, hsa, hsb⟩ := sat_append.1 hsat
  obtain ⟨hdaR, hdbR⟩ := PH.dis_un.1 hd
  have hale : ha.le (hp w) := PH.le_trans (PH.le_un_left _ _) hle
  have hble : hb.le (hp w) := PH.le_trans (PH.le_un_right hdab) hle
  refine ⟨R, ha, hsa, ⟨hale, hR, hdaR⟩, fun w' A' hs' => ?_⟩
  obtain ⟨R', h', hsat', hle', hR', hd', h0', hfr'⟩ := hs'.ex
  have hbw : ∀ i o, hb i = some o → hp w' i = some o ∧ h' i = none ∧ R' i = none := fun i o hi => by
    have hlt := hp_lt (hble i o hi)
    have hai : ha i = none := (hdab i).resolve_right (by rw [hi]; simp)
    obtain ⟨e1, e2, e3⟩ := hfr' i hlt hai
    exact ⟨by rw [e1]; exact hble i o hi, e2, by rw [e3]; exact (hdbR i).resolve_left (by rw [hi]; simp)⟩
  have hdis : h'.dis hb := fun i => by
    cases hi : hb i with
    | none => exact .inr rfl
    | some o => exact .inl (hbw i o hi).2.1
  refine ⟨hs'.os.trans hs.os, hs'.tape.trans hs.tape, hs'.output.trans hs.output, Nat.le_trans hs.size hs'.size, R', h'.un hb, ?_, ?_, hR', ?_, PH.le_trans h0 h0', ?_⟩
  · exact sat_append.2 ⟨h', hb, rfl, hdis, hsat', sat_mono h0' hsb⟩
  · exact PH.un_le hle' fun i o hi => (hbw i o hi).1
  · refine PH.dis_un.2 ⟨hd', fun i => ?_⟩
    cases hi : hb i with
    | none => exact .inl rfl
    | some o => exact .inr (hbw i o hi).2.2
  · intro i hi hF
    obtain ⟨e1, e2, e3⟩ := hfr i hi hF
    obtain ⟨ea, eb⟩ := PH.un_none.1 e2
    obtain ⟨f1, f2, f3⟩ := hfr' i (Nat.lt_of_lt_of_le hi hs.size) ea
    exact ⟨f1.trans e1, PH.un_none.2 ⟨f2, eb⟩, f3.trans e3⟩

theorem St.frame2 {F R0 : PH} {w0 w : World} {e : HE} {B : List HE} (hs : St F R0 w0 w (e :: B)) :
    ∃ R h, e.sem R h ∧ (∃ hb, sat R B hb ∧ hb.le (hp w)) ∧ Fit R h w ∧ ∀ w' A', St h R w w' A' → St F R0 w0 w' (A' ++ B) := by
  obtain ⟨R, h, hsat, hle, hR, hd, h0, hfr⟩ := hs.ex
  obtain ⟨ha, hb, rfl, hdab, hsa, hsb⟩ := hsat
  obtain ⟨hdaR, hdbR⟩ := PH.dis_un.1 hd
  have hale : ha.le (hp w) := PH.le_trans (PH.le_un_left _ _) hle
  have hble : hb.le (hp w) := PH.le_trans (PH.le_un_right hdab) hle
  refine ⟨R, ha, hsa, ⟨hb, hsb, hble⟩, ⟨hale, hR, hdaR⟩, fun w' A' hs' => ?_⟩
  obtain ⟨R', h', hsat', hle', hR', hd', h0', hfr'⟩ := hs'.ex
  have hbw : ∀ i o, hb i = some o → hp w' i = some o ∧ h' i = none ∧ R' i = none := fun i o hi => by
    have hlt := hp_lt (hble i o hi)
    have hai : ha i = none := (hdab i).resolve_right (by rw [hi]; simp)
    obtain ⟨e1, e2, e3⟩ := hfr' i hlt hai
    exact ⟨by rw [e1]; exact hble i o hi, e2, by rw [e3]; exact (hdbR i).resolve_left (by rw [hi]; simp)⟩
  have hdis : h'.dis hb := fun i => by
    cases hi : hb i with
    | none => exact .inr rfl
    | some o => exact .inl (hbw i o hi).2.1
  refine ⟨hs'.os.trans hs.os, hs'.tape.trans hs.tape, hs'.output.trans hs.output, Nat.le_trans hs.size hs'.size, R', h'.un hb, ?_, ?_, hR', ?_, PH.le_trans h0 h0', ?_⟩
  · exact sat_append.2 ⟨h', hb, rfl, hdis, hsat', sat_mono h0' hsb⟩
  · exact PH.un_le hle' fun i o hi => (hbw i o hi).1
  · refine PH.dis_un.2 ⟨hd', fun i => ?_⟩
    cases hi : hb i with
    | none => exact .inl rfl
    | some o => exact .inr (hbw i o hi).2.2
  · intro i hi hF
    obtain ⟨e1, e2, e3⟩ := hfr i hi hF
    obtain ⟨ea, eb⟩ := PH.un_none.1 e2
    obtain ⟨f1, f2, f3⟩ := hfr' i (Nat.lt_of_lt_of_le hi hs.size) ea
    exact ⟨f1.trans e1, PH.un_none.2 ⟨f2, eb⟩, f3.trans e3⟩
theorem St.rem {F R0 : PH} {w0 w : World} {e : HE} {L L' : List HE} (r : Rem e L L') (hs : St F R0 w0 w L) : St F R0 w0 w (e :: L') := by
  obtain ⟨R, h, hsat, rest⟩ := hs.ex
  exact ⟨hs.os, hs.tape, hs.output, hs.size, R, h, r.iff.1 hsat, rest⟩
theorem St.put {F R0 : PH} {w0 w : World} {e : HE} {L L' : List HE} (r : Rem e L L') (hs : St F R0 w0 w (e :: L')) : St F R0 w0 w L := by
  obtain ⟨R, h, hsat, rest⟩ := hs.ex
  exact ⟨hs.os, hs.tape, hs.output, hs.size, R, h, r.iff.2 hsat, rest⟩
/-- An assertion is forgotten. -/
theorem St.drop {F R0 : PH} {w0 w : World} {e : HE} {L : List HE} (hs : St F R0 w0 w (e :: L)) : St F R0 w0 w L := by
  obtain ⟨R, h, ⟨h1, h2, rfl, d, s, k⟩, hle, hR, hd, h0, hfr⟩ := hs.ex
  refine ⟨hs.os, hs.tape, hs.output, hs.size, R, h2, k, PH.le_trans (PH.le_un_right d) hle, hR, (PH.dis_un.1 hd).2, h0, fun i hi hF => ?_⟩
  obtain ⟨e1, e2, e3⟩ := hfr i hi hF
  exact ⟨e1, (PH.un_none.1 e2).2, e3⟩

/-- The same assertions in another order, some forgotten. -/
inductive Sub : List HE → List HE → Prop
  | nil {L} : Sub L []
  | c {e L L' A} : Rem e L L' → Sub L' A → Sub L (e :: A)
theorem St.cons_frame {F R0 : PH} {w0 w : World} {e : HE} {L : List HE} (hs : St F R0 w0 w (e :: L)) :
    ∃ R h, e.sem R h ∧ Fit R h w ∧ ∀ w' A', St h R w w' A' → St F R0 w0 w' (A' ++ L) := by
  obtain ⟨R, h, hsat, hf, k⟩ := St.frame (A := [e]) hs
  obtain ⟨h1, h2, rfl, d, s, r⟩ := hsat
  have : h2 = PH.emp := r
  subst this
  rw [PH.un_emp] at *
  exact ⟨R, h1, s, hf, k⟩
theorem Sub.st {F R0 : PH} {w0 w : World} {L A : List HE} (r : Sub L A) : St F R0 w0 w L → St F R0 w0 w A := by
  suffices ∀ {R h}, sat R L h → ∃ h', sat R A h' ∧ h'.le h by
    intro hs
    obtain ⟨R, h, hsat, hle, hR, hd, h0, hfr⟩ := hs.ex
    obtain ⟨h', hs', hl⟩ := this hsat
    refine ⟨hs.os, hs.tape, hs.output, hs.size, R, h', hs', PH.le_trans hl hle, hR, fun i => ?_, h0, fun i hi hF => ?_⟩
    · cases hh : h' i with
      | none => exact .inl rfl
      | some o => exact .inr ((hd i).resolve_left (by rw [hl i o hh]; simp))
    · obtain ⟨e1, e2, e3⟩ := hfr i hi hF
      refine ⟨e1, ?_, e3⟩
      cases hh : h' i with
      | none => rfl
      | some o => rw [hl i o hh] at e2; cases e2
  induction r with
  | nil => exact fun _ => ⟨PH.emp, rfl, PH.le_emp _⟩
  | c r _ ih =>
    intro R h hs
    obtain ⟨h1, h2, rfl, d, s, k⟩ := r.iff.1 hs
    obtain ⟨h', hs', hl⟩ := ih k
    refine ⟨h1.un h', ⟨h1, h', rfl, fun i => ?_, s, hs'⟩, PH.un_le (PH.le_un_left _ _) (PH.le_trans hl (PH.le_un_right d))⟩
    cases hh : h' i with
    | none => exact .inr rfl
    | some o => exact .inl ((d i).resolve_right (by rw [hl i o hh]; simp))

/-- What is only read may be had twice. -/
theorem St.dup {F R0 : PH} {w0 w : World} {α : Type} {k : Kind α} {cs : List Value} {x : α} {L : List HE} (hs : St F R0 w0 w (.ro k cs x :: L)) : St F R0 w0 w (.ro k cs x :: .ro k cs x :: L) := by
  obtain ⟨R, h, ⟨h1, h2, rfl, d, ⟨e, s⟩, r⟩, rest⟩ := hs.ex
  subst e
  exact ⟨hs.os, hs.tape, hs.output, hs.size, R, _, ⟨PH.emp, PH.emp.un h2, rfl, PH.emp_dis _, ⟨rfl, s⟩, PH.emp, h2, rfl, PH.emp_dis _, ⟨rfl, s⟩, r⟩, by rw [PH.emp_un]; exact rest⟩

/-! ### Steps of the world -/
theorem St.drawn {R h : PH} {w : World} {L : List HE} (n : Nat) (hs : sat R L h) (hf : Fit R h w) : St h R w (w.drewN n) L :=
  ⟨rfl, rfl, rfl, Nat.le_refl _, R, h, hs, hf.h_le, hf.R_le, hf.dis, PH.le_refl R, fun _ _ hi => ⟨rfl, hi, rfl⟩⟩
theorem hp_alloc (w : World) (o : Obj) : hp (w.alloc o) = (hp w).un (PH.one w.heap.size o) := by
  funext i
  show (w.heap.push o)[i]? = _
  rw [Array.getElem?_push]
  by_cases h : i = w.heap.size
  · subst h; simp [PH.un, hp, PH.one]
  · simp only [h, if_false, PH.un, PH.one, hp]; cases w.heap[i]? <;> rfl
theorem St.draw {F R0 : PH} {w0 w : World} {L : List HE} (n : Nat) (hs : St F R0 w0 w L) : St F R0 w0 (w.drewN n) L := by
  obtain ⟨ex⟩ := hs.ex
  exact ⟨hs.os, hs.tape, hs.output, hs.size, hs.ex⟩
theorem hp_alloc_le (w : World) (o : Obj) : (hp w).le (hp (w.alloc o)) := by rw [hp_alloc]; exact PH.le_un_left _ _
/-- A new block. -/
theorem St.alloc {F R0 : PH} {w0 w : World} {L : List HE} (hs : St F R0 w0 w L) (o : Obj) (e : HE) (he : ∀ R, e.sem R (PH.one w.heap.size o)) : St F R0 w0 (w.alloc o) (e :: L) := by
  obtain ⟨R, h, hsat, hle, hR, hd, h0, hfr⟩ := hs.ex
  have hn : h w.heap.size = none := by
    cases hh : h w.heap.size with
    | none => rfl
    | some x => exact absurd (hp_lt (hle _ _ hh)) (Nat.lt_irrefl _)
  have hRn : R w.heap.size = none := by
    cases hh : R w.heap.size with
    | none => rfl
    | some x => exact absurd (hp_lt (hR _ _ hh)) (Nat.lt_irrefl _)
  have hdo : ∀ (g : PH), g w.heap.size = none → (PH.one w.heap.size o).dis g := fun g hg i => by
    by_cases k : i = w.heap.size
    · subst k; exact .inr hg
    · exact .inl (PH.one_other _ k)
  refine ⟨hs.os, hs.tape, hs.output, Nat.le_trans hs.size (by simp), R, (PH.one w.heap.size o).un h, ⟨_, _, rfl, hdo h hn, he R, hsat⟩, ?_, PH.le_trans hR (hp_alloc_le w o), PH.dis_un.2 ⟨hdo R hRn, hd⟩, h0, ?_⟩
  · refine PH.un_le (PH.one_le ?_) (PH.le_trans hle (hp_alloc_le w o))
    show (w.heap.push o)[w.heap.size]? = _
    simp
  · intro i hi hF
    obtain ⟨e1, e2, e3⟩ := hfr i hi hF
    have hlt : i < w.heap.size := Nat.lt_of_lt_of_le hi hs.size
    refine ⟨?_, PH.un_none.2 ⟨PH.one_other _ (by omega), e2⟩, e3⟩
    rw [← e1]
    exact Below.heap_alloc w o i hlt
/-- A block that is held is written anew. -/
theorem St.modify {F R0 : PH} {w0 w w' : World} {L : List HE} {e e' : HE} (hs : St F R0 w0 w (e :: L))
    (H : ∀ R h, e.sem R h → Fit R h w → ∃ b o', (∀ i, i ≠ b → h i = none) ∧ h b ≠ none ∧ e'.sem R (PH.one b o') ∧ w'.heap.size = w.heap.size ∧ hp w' b = some o' ∧ (∀ i, i ≠ b → hp w' i = hp w i) ∧ w'.os = w.os ∧ w'.tape = w.tape ∧ w'.output = w.output) :
    St F R0 w0 w' (e' :: L) := by
  obtain ⟨R, h, hsem, hf, k⟩ := hs.cons_frame
  obtain ⟨b, o', h1, h2, h3, h4, h5, h6, h7, h8, h9⟩ := H R h hsem hf
  have hRb : R b = none := (hf.dis b).resolve_left h2
  refine k w' [e'] ⟨h7, h8, h9, by omega, R, PH.one b o', ⟨_, PH.emp, (PH.un_emp _).symm, PH.dis_emp _, h3, rfl⟩, PH.one_le h5, ?_, ?_, PH.le_refl R, ?_⟩
  · intro i o hi
    have hne : i ≠ b := fun e => by rw [e, hRb] at hi; cases hi
    rw [h6 i hne]; exact hf.R_le i o hi
  · intro i
    by_cases hi : i = b
    · subst hi; exact .inr hRb
    · exact .inl (PH.one_other _ hi)
  · intro i hi hF
    have hne : i ≠ b := fun e => h2 (e ▸ hF)
    exact ⟨h6 i hne, PH.one_other _ hne, rfl⟩
/-- What a held block may come to. -/
theorem St.modify2 {F R0 : PH} {w0 w : World} {L : List HE} {e : HE} (hs : St F R0 w0 w (e :: L)) :
    ∃ R h, e.sem R h ∧ (∃ hb, sat R L hb ∧ hb.le (hp w)) ∧ Fit R h w ∧ ∀ (w' : World) (e' : HE) (b : Nat) (o' : Obj), (∀ i, i ≠ b → h i = none) → h b ≠ none → e'.sem R (PH.one b o') → w'.heap.size = w.heap.size → hp w' b = some o' → (∀ i, i ≠ b → hp w' i = hp w i) →
      w'.os = w.os → w'.tape = w.tape → w'.output = w.output → St F R0 w0 w' (e' :: L) := by
  obtain ⟨R, h, hsem, hb, hf, k⟩ := hs.frame2
  refine ⟨R, h, hsem, hb, hf, fun w' e' b o' h1 h2 h3 h4 h5 h6 h7 h8 h9 => ?_⟩
  have hRb : R b = none := (hf.dis b).resolve_left h2
  refine k w' [e'] ⟨h7, h8, h9, by omega, R, PH.one b o', ⟨_, PH.emp, (PH.un_emp _).symm, PH.dis_emp _, h3, rfl⟩, PH.one_le h5, ?_, ?_, PH.le_refl R, ?_⟩
  · intro i o hi
    have hne : i ≠ b := fun e => by rw [e, hRb] at hi; cases hi
    rw [h6 i hne]; exact hf.R_le i o hi
  · intro i
    by_cases hi : i = b
    · subst hi; exact .inr hRb
    · exact .inl (PH.one_other _ hi)
  · intro i hi hF
    have hne : i ≠ b := fun e => h2 (e ▸ hF)
    exact ⟨h6 i hne, PH.one_other _ hne, rfl⟩
end Go.Proofs.YtecipnjloenndaaDoor.SX
