/-
Plain laws of the parsers: every row of bytes is orders, or a command; each is of few parts.
-/
import Derived.Test.YtecipnjloenndaaGreatDoorScrA
set_option linter.unusedVariables false
set_option linter.unusedSimpArgs false
set_option maxRecDepth 100000
namespace Go.Proofs.YtecipnjloenndaaGreatDoor.G
open Go Go.RowKit Go.Proofs.YtecipnjloenndaaGreatDoor.SX

/-! ### Orders -/
/-- A parser within bytes. -/
structure Pr (b : List UInt8) (p : order_parser) : Prop where
  eq : p.f_b = b
  lo : 0 ≤ p.f_at
  hi : p.f_at ≤ (b.length : Int)
  few : b.length ≤ 700
theorem plain_ok (y : UInt8) : ∃ r, order_Plain_m y = some r := by
  unfold order_Plain_m
  repeat' split
  all_goals simp only [Option.bind_some]
  all_goals (try split) <;> exact ⟨_, rfl⟩
/-- What a parser comes to: further on, or it gives up. -/
def Goes {α : Type} (b : List UInt8) (k : Int) (p : order_parser) (Q : α → Prop) (r : Sum (order_parser × α) (order_parser × Int)) : Prop :=
  match r with
  | .inl (p', x) => Pr b p' ∧ p.f_at + k ≤ p'.f_at ∧ Q x
  | .inr (p', e) => True
theorem next_ok {b : List UInt8} {p : order_parser} (h : Pr b p) : ∃ r, order_parser_next_m p = some r ∧ Goes b 1 p (fun _ => True) r := by
  unfold order_parser_next_m
  have hf := h.few; have h0 := h.lo; have h1 := h.hi
  rw [h.eq]
  by_cases ha : p.f_at ≥ (b.length : Int)
  · rw [if_pos ha]; exact ⟨_, rfl, trivial⟩
  · have e1 : w64 (p.f_at + 1) = p.f_at + 1 := w64_in (by omega)
    have e2 : w64 (p.f_at + 1 - 1) = p.f_at := by rw [show p.f_at + 1 - 1 = p.f_at by omega]; exact w64_in (by omega)
    obtain ⟨y, hy, _⟩ := ix_ok (xs := b) h0 (by omega)
    rw [if_neg ha, e1, e2, hy]
    exact ⟨_, rfl, ⟨rfl, by show 0 ≤ p.f_at + 1; omega, by show p.f_at + 1 ≤ _; omega, h.few⟩, by show p.f_at + 1 ≤ p.f_at + 1; omega, trivial⟩
theorem place_ok {b : List UInt8} {p : order_parser} (h : Pr b p) : ∃ r, order_parser_place_m p = some r ∧ Goes b 2 p (fun _ => True) r := by
  unfold order_parser_place_m
  obtain ⟨r, e, hr⟩ := next_ok h
  rw [e, Option.bind_some]
  cases r with
  | inr q => exact ⟨_, rfl, trivial⟩
  | inl q =>
    obtain ⟨g1, g2, _⟩ := hr
    obtain ⟨r2, e2, hr2⟩ := next_ok g1
    simp only [onE, e2, Option.bind_some]
    cases r2 with
    | inr q2 => exact ⟨_, rfl, trivial⟩
    | inl q2 =>
      obtain ⟨k1, k2, _⟩ := hr2
      have : ∃ v, addr_Decode_m q.2 q2.2 = some v := by
        unfold addr_Decode_m addr_Value_m
        split <;> exact ⟨_, rfl⟩
      obtain ⟨v, hv⟩ := this
      simp only [hv, Option.bind_some]
      exact ⟨_, rfl, k1, by show _ ≤ q2.1.f_at; omega, trivial⟩
theorem special_ok {b : List UInt8} {p : order_parser} (h : Pr b p) : ∃ r, order_parser_special_m p = some r ∧ Goes b 1 p (fun _ => True) r := by
  unfold order_parser_special_m
  obtain ⟨r, e, hr⟩ := next_ok h
  rw [e, Option.bind_some]
  cases r with
  | inr q => exact ⟨_, rfl, trivial⟩
  | inl q =>
    simp only [onE]
    split
    · exact ⟨_, rfl, trivial⟩
    · exact ⟨_, rfl, hr⟩
theorem ite_some {α : Type} {c : Prop} [Decidable c] {a b : α} : (if c then some a else some b) = some (if c then a else b) := by split <;> rfl
theorem check_ok (k : UInt8) (x : api_Pair) : ∃ r, attr_Check_m k x = some r := by
  unfold attr_Check_m
  simp only [ite_some, Option.bind_some]
  exact ⟨_, rfl⟩
theorem pairs_l1 {b : List UInt8} (kind : UInt8) (m : Int) (hm : m ≤ 255) : ∀ (n : Nat) (i : Int) (acc : List api_Pair) (p : order_parser), Pr b p → 0 ≤ i → (acc.length : Int) = i → i ≤ max m 0 → max m 0 - i < n →
    ∃ r, order_parser_pairs_l1 1000 kind m n (i, acc, p.f_b, p.f_at) = some r ∧ (match r with
      | .inl q => Pr b ⟨q.2.1, q.2.2⟩ ∧ p.f_at ≤ q.2.2 ∧ q.1.length ≤ 255
      | .inr (.inl _) => False
      | .inr (.inr _) => True) := by
  intro n
  induction n with
  | zero => intro i acc p h h0 h1 h2 h3; omega
  | succ n ih =>
    intro i acc p h h0 h1 h2 h3
    unfold order_parser_pairs_l1
    by_cases hi : i < m
    · have hw : w64 (i + 1) = i + 1 := w64_in (by omega)
      simp only [hi, if_true]
      obtain ⟨r, e, hr⟩ := next_ok h
      have e' : order_parser_next_m ⟨p.f_b, p.f_at⟩ = some r := e
      rw [e', Option.bind_some]
      cases r with
      | inr q => exact ⟨_, rfl, trivial⟩
      | inl q =>
        obtain ⟨g1, g2, _⟩ := hr
        obtain ⟨r2, e2, hr2⟩ := next_ok g1
        simp only [onE, e2, Option.bind_some]
        cases r2 with
        | inr q2 => exact ⟨_, rfl, trivial⟩
        | inl q2 =>
          obtain ⟨k1, k2, _⟩ := hr2
          obtain ⟨v, hv⟩ := check_ok kind ⟨q.2, q2.2⟩
          simp only [hv, Option.bind_some]
          split
          · exact ⟨_, rfl, trivial⟩
          · rw [app_ok (by simp; omega), Option.bind_some, hw]
            obtain ⟨r3, e3, h3'⟩ := ih (i + 1) (acc ++ [⟨q.2, q2.2⟩]) q2.1 k1 (by omega) (by simp; omega) (by omega) (by omega)
            refine ⟨r3, e3, ?_⟩
            match r3, h3' with
            | .inl q3, ⟨a1, a2, a3⟩ => exact ⟨a1, by omega, a3⟩
            | .inr (.inr q3), _ => trivial
    · rw [if_neg hi]
      exact ⟨_, rfl, ⟨h.eq, h.lo, h.hi, h.few⟩, Int.le_refl _, by show acc.length ≤ 255; omega⟩
theorem pairs_ok {b : List UInt8} {p : order_parser} (h : Pr b p) (kind : UInt8) (m : Int) (hm : m ≤ 255) : ∃ r, order_parser_pairs_m 1000 p kind m = some r ∧ Goes b 0 p (fun x => x.length ≤ 255) r := by
  unfold order_parser_pairs_m
  obtain ⟨r, e, hr⟩ := pairs_l1 (b := b) kind m hm 1000 0 [] p h (by omega) rfl (by omega) (by omega)
  rw [e, Option.bind_some]
  match r, hr with
  | .inl q, ⟨a1, a2, a3⟩ => exact ⟨_, rfl, a1, by show p.f_at + 0 ≤ q.2.2; omega, a3⟩
  | .inr (.inr q), _ => exact ⟨_, rfl, by obtain ⟨q1, q2⟩ := q; trivial⟩
theorem repeat_ok {b : List UInt8} {p : order_parser} (h : Pr b p) : ∃ r, order_parser_repeat_m p = some r ∧ Goes b 3 p (fun x => x.f_Data = [] ∧ x.f_Pairs = []) r := by
  unfold order_parser_repeat_m
  obtain ⟨r, e, hr⟩ := place_ok h
  rw [e, Option.bind_some]
  cases r with
  | inr q => exact ⟨_, rfl, trivial⟩
  | inl q =>
    obtain ⟨g1, g2, _⟩ := hr
    obtain ⟨r2, e2, hr2⟩ := next_ok g1
    simp only [onE, e2, Option.bind_some]
    cases r2 with
    | inr q2 => exact ⟨_, rfl, trivial⟩
    | inl q2 =>
      obtain ⟨k1, k2, _⟩ := hr2
      simp only
      split
      · obtain ⟨r3, e3, hr3⟩ := special_ok k1
        rw [e3, Option.bind_some]
        cases r3 with
        | inr q3 => exact ⟨_, rfl, trivial⟩
        | inl q3 =>
          obtain ⟨m1, m2, _⟩ := hr3
          exact ⟨_, rfl, m1, by show _ ≤ q3.1.f_at; omega, rfl, rfl⟩
      · obtain ⟨v, hv⟩ := plain_ok q2.2
        rw [hv, Option.bind_some]
        split
        · exact ⟨_, rfl, trivial⟩
        · exact ⟨_, rfl, k1, by show _ ≤ q2.1.f_at; omega, rfl, rfl⟩
theorem data_l1 {b : List UInt8} (p : order_parser) (hb : p.f_b = b) (hf : b.length ≤ 700) : ∀ (n : Nat) (i : Int), 0 ≤ i → i ≤ (b.length : Int) → (b.length : Int) - i < n → ∃ r, order_parser_data_l1 1000 p n i = some r ∧ i ≤ r ∧ r ≤ (b.length : Int) ∧ ∀ y, b[i.toNat]? = some y → order_Plain_m y = some true → i < r := by
  intro n
  induction n with
  | zero => intro i h0 h1 h2; omega
  | succ n ih =>
    intro i h0 h1 h2
    unfold order_parser_data_l1
    rw [hb]
    by_cases hi : i < (b.length : Int)
    · obtain ⟨y, hy, hy2⟩ := ix_ok (xs := b) h0 hi
      obtain ⟨v, hv⟩ := plain_ok y
      have hw : w64 (i + 1) = i + 1 := w64_in (by omega)
      simp only [hi, if_true, hy, hv, Option.bind_some, hw]
      cases v with
      | true =>
        obtain ⟨r, e, h3, h4, _⟩ := ih (i + 1) (by omega) (by omega) (by omega)
        exact ⟨r, by simpa using e, by omega, h4, fun _ _ _ => by omega⟩
      | false =>
        refine ⟨i, by simp, Int.le_refl _, h1, fun z hz1 hz2 => ?_⟩
        rw [hy2] at hz1; cases hz1
        rw [hv] at hz2; cases hz2
    · simp only [hi, if_false, Option.bind_some, Bool.false_eq_true]
      refine ⟨i, rfl, Int.le_refl _, h1, fun z hz1 _ => ?_⟩
      rw [List.getElem?_eq_none (by omega)] at hz1; cases hz1
/-- Orders of few parts. -/
structure OrdOK (L : Nat) (o : api_Order) : Prop where
  data : o.f_Data.length ≤ L
  pairs : o.f_Pairs.length ≤ 255
theorem one_ok {b : List UInt8} {p : order_parser} (h : Pr b p) (hlt : p.f_at < (b.length : Int)) : ∃ r, order_parser_one_m 1000 p = some r ∧ Goes b 1 p (fun o => OrdOK 700 o) r := by
  have hf := h.few; have h0 := h.lo; have h1 := h.hi
  unfold order_parser_one_m
  obtain ⟨y, hy, hy2⟩ := ix_ok (xs := b) h0 hlt
  obtain ⟨v, hv⟩ := plain_ok y
  rw [h.eq, hy, Option.bind_some, hv, Option.bind_some]
  cases v with
  | true =>
    rw [if_pos rfl]
    unfold order_parser_data_m
    obtain ⟨r, e, g1, g2, g3⟩ := data_l1 p h.eq hf 1000 p.f_at h0 h1 (by omega)
    rw [e, Option.bind_some, h.eq, sub_ok h0 g1 g2, Option.bind_some]
    unfold slices_Clone_byte_byte_m
    rw [app_ok (by simp; omega)]
    refine ⟨_, rfl, ⟨rfl, by show 0 ≤ r; omega, g2, hf⟩, ?_, ?_, ?_⟩
    · have := g3 y hy2 hv
      show p.f_at + 1 ≤ r; omega
    · simp; omega
    · simp
  | false =>
    rw [if_neg (by simp)]
    obtain ⟨r, e, hr⟩ := next_ok h
    rw [e, Option.bind_some]
    cases r with
    | inr q => exact ⟨_, rfl, trivial⟩
    | inl q =>
      obtain ⟨g1, g2, _⟩ := hr
      have z : OrdOK 700 (⟨q.2, 0, 0, false, [], []⟩ : api_Order) := ⟨by simp, by simp⟩
      have fin : ∀ (r : Sum (order_parser × api_Order) (order_parser × Int)), Goes b 0 q.1 (fun o => OrdOK 700 o) r → Goes b 1 p (fun o => OrdOK 700 o) r := fun r hr => by
        match r, hr with
        | .inl (p', x), ⟨a1, a2, a3⟩ => exact ⟨a1, by omega, a3⟩
        | .inr (p', x), _ => trivial
      have key : ∀ {α : Type} {k : Int} {Q : α → Prop} {m : Option (Sum (order_parser × α) (order_parser × Int))} (f : α → api_Order), 0 ≤ k → (∃ r, m = some r ∧ Goes b k q.1 Q r) → (∀ x, Q x → OrdOK 700 (f x)) →
          ∃ r, (m.bind (onE (fun o => some (Sum.inl (o.1, f o.2))) (fun o => some (Sum.inr (o.1, o.2))))) = some r ∧ Goes b 1 p (fun o => OrdOK 700 o) r := by
        intro α k Q m f hk hm hf
        obtain ⟨r, e, hr⟩ := hm
        rw [e, Option.bind_some]
        match r, hr with
        | .inl (p', x), ⟨a1, a2, a3⟩ => exact ⟨_, rfl, a1, by have : q.1.f_at + k ≤ p'.f_at := a2; have : p.f_at + 1 ≤ q.1.f_at := g2; show p.f_at + 1 ≤ p'.f_at; omega, hf x a3⟩
        | .inr (p', x), _ => exact ⟨_, rfl, trivial⟩
      have ok : ∀ {x : api_Order}, x.f_Data = [] → x.f_Pairs.length ≤ 255 → OrdOK 700 x := fun h1 h2 => ⟨by rw [h1]; simp, h2⟩
      simp only [onE]
      by_cases k1 : q.2 = 17 ∨ q.2 = 18
      · have : (if q.2 = 17 then some (decide (q.2 = 17)) else some (decide (q.2 = 18))) = some true := by rcases k1 with k1 | k1 <;> simp [k1]
        simp only [this, Option.bind_some, if_true]
        exact key (fun x => ⟨q.2, x, 0, false, [], []⟩) (by omega) (place_ok g1) fun x _ => ok rfl (by simp)
      · have : (if q.2 = 17 then some (decide (q.2 = 17)) else some (decide (q.2 = 18))) = some false := by
          have a : ¬ q.2 = 17 := fun h => k1 (.inl h)
          have b : ¬ q.2 = 18 := fun h => k1 (.inr h)
          simp [a, b]
        simp only [this, Option.bind_some, if_false, Bool.false_eq_true]
        by_cases k2 : q.2 = 29
        · rw [if_pos k2]
          exact key (fun x => ⟨q.2, 0, x &&& 63, false, [], []⟩) (by omega) (next_ok g1) fun x _ => ok rfl (by simp)
        · rw [if_neg k2]
          by_cases k3 : q.2 = 41 ∨ q.2 = 44
          · have : (if q.2 = 41 then some (decide (q.2 = 41)) else some (decide (q.2 = 44))) = some true := by rcases k3 with k1 | k1 <;> simp [k1]
            simp only [this, Option.bind_some, if_true]
            obtain ⟨r2, e2, hr2⟩ := next_ok g1
            rw [e2, Option.bind_some]
            cases r2 with
            | inr q2 => exact ⟨_, rfl, trivial⟩
            | inl q2 =>
              obtain ⟨n1, n2, _⟩ := hr2
              have hl := q2.2.toNat_lt
              obtain ⟨r3, e3, hr3⟩ := pairs_ok n1 q.2 (q2.2.toNat : Int) (by omega)
              simp only [onE]
              rw [e3, Option.bind_some]
              match r3, hr3 with
              | .inl (p', x), ⟨a1, a2, a3⟩ => exact ⟨_, rfl, a1, by have : q2.1.f_at + 0 ≤ p'.f_at := a2; show p.f_at + 1 ≤ p'.f_at; omega, ok rfl a3⟩
              | .inr (p', x), _ => exact ⟨_, rfl, trivial⟩
          · have : (if q.2 = 41 then some (decide (q.2 = 41)) else some (decide (q.2 = 44))) = some false := by
              have a : ¬ q.2 = 41 := fun h => k3 (.inl h)
              have b : ¬ q.2 = 44 := fun h => k3 (.inr h)
              simp [a, b]
            simp only [this, Option.bind_some, if_false, Bool.false_eq_true]
            by_cases k4 : q.2 = 40
            · rw [if_pos k4]
              exact key (fun x => ⟨q.2, 0, 0, false, x, []⟩) (by omega) (pairs_ok g1 q.2 1 (by omega)) fun x hx => ok rfl hx
            · rw [if_neg k4]
              by_cases k5 : q.2 = 19 ∨ q.2 = 5
              · have : (if q.2 = 19 then some (decide (q.2 = 19)) else some (decide (q.2 = 5))) = some true := by rcases k5 with k1 | k1 <;> simp [k1]
                simp only [this, Option.bind_some, if_true]
                exact ⟨_, rfl, g1, g2, z⟩
              · have : (if q.2 = 19 then some (decide (q.2 = 19)) else some (decide (q.2 = 5))) = some false := by
                  have a : ¬ q.2 = 19 := fun h => k5 (.inl h)
                  have b : ¬ q.2 = 5 := fun h => k5 (.inr h)
                  simp [a, b]
                simp only [this, Option.bind_some, if_false, Bool.false_eq_true]
                by_cases k6 : q.2 = 60
                · rw [if_pos k6]
                  exact key (fun x => x) (by omega) (repeat_ok g1) fun x hx => ok hx.1 (by rw [hx.2]; simp)
                · rw [if_neg k6]
                  by_cases k7 : q.2 = 8
                  · rw [if_pos k7]
                    exact key (fun x => ⟨q.2, 0, x, false, [], []⟩) (by omega) (special_ok g1) fun x _ => ok rfl (by simp)
                  · rw [if_neg k7]; exact ⟨_, rfl, trivial⟩
theorem parse_l1 {b : List UInt8} (hf : b.length ≤ 700) : ∀ (n : Nat) (rd at_ : Int) (acc : List api_Order), 0 ≤ at_ → at_ ≤ (b.length : Int) → (acc.length : Int) ≤ at_ → (∀ o ∈ acc, OrdOK 700 o) → (b.length : Int) - at_ < n →
    ∃ r, order_Parse_l1 1000 b n (rd, acc, at_) = some r ∧ (match r with
      | .inl q => q.2.1.length ≤ 700 ∧ ∀ o ∈ q.2.1, OrdOK 700 o
      | .inr q => q.1.length ≤ 700 ∧ ∀ o ∈ q.1, OrdOK 700 o) := by
  intro n
  induction n with
  | zero => intro rd at_ acc h0 h1 h2 h3 h4; omega
  | succ n ih =>
    intro rd at_ acc h0 h1 h2 h3 h4
    unfold order_Parse_l1
    by_cases hi : at_ < (b.length : Int)
    · simp only [hi, if_true]
      obtain ⟨r, e, hr⟩ := one_ok (b := b) (p := ⟨b, at_⟩) ⟨rfl, h0, h1, hf⟩ hi
      rw [e, Option.bind_some]
      match r, hr with
      | .inr (p', x), _ => exact ⟨_, rfl, by show acc.length ≤ 700; omega, h3⟩
      | .inl (p', x), ⟨a1, a2, a3⟩ =>
        have a2' : at_ + 1 ≤ p'.f_at := a2
        have a4 := a1.hi; have a5 := a1.lo
        simp only [onE]
        rw [app_ok (by simp; omega), Option.bind_some]
        exact ih p'.f_at p'.f_at (acc ++ [x]) a5 a4 (by simp; omega) (fun o ho => by
          rcases List.mem_append.1 ho with ho | ho
          · exact h3 o ho
          · rw [List.mem_singleton.1 ho]; exact a3) (by omega)
    · rw [if_neg hi]
      exact ⟨_, rfl, by show acc.length ≤ 700; omega, h3⟩
theorem parse_ok {b : List UInt8} (hf : b.length ≤ 700) : ∃ os rd e, order_Parse_m 1000 b = some (os, rd, e) ∧ os.length ≤ 700 ∧ ∀ o ∈ os, OrdOK 700 o := by
  unfold order_Parse_m
  obtain ⟨r, e, hr⟩ := parse_l1 hf 1000 0 0 [] (by omega) (by omega) (by simp) (by simp) (by omega)
  rw [e, Option.bind_some]
  match r, hr with
  | .inl q, h => exact ⟨_, _, _, rfl, h.1, h.2⟩
  | .inr q, h => exact ⟨q.1, q.2.1, q.2.2, rfl, h.1, h.2⟩

/-! ### Commands -/
theorem find_all : ((List.range 256).all fun n => (command_find_m 1000 (UInt8.ofNat n)).isSome) = true := by kernel_rfl
theorem find_ok (b : UInt8) : ∃ f ok, command_find_m 1000 b = some (f, ok) := by
  have := u8dec (p := fun b => (command_find_m 1000 b).isSome) find_all b
  obtain ⟨r, hr⟩ := Option.isSome_iff_exists.1 this
  exact ⟨r.1, r.2, hr⟩
theorem writes_ok (b : UInt8) : command_writes_m b = some (decide (b = 241 ∨ b = 245 ∨ b = 126)) := by
  unfold command_writes_m
  by_cases h1 : b = 241
  · simp [h1]
  · by_cases h2 : b = 245
    · simp [h2]
    · simp [h1, h2]
/-- A command that may be done: of few parts, without fields in fields. -/
structure CmdIn (c : command_Command) : Prop where
  n : c.f_Orders.length ≤ 700
  os : ∀ o ∈ c.f_Orders, OrdOK 700 o
structure CmdOK (c : command_Command) : Prop extends CmdIn c where
  fn : c.f_Fields.length ≤ 700
  fs : ∀ f ∈ c.f_Fields, CmdIn f.f_Inner ∧ f.f_Inner.f_Kind ≠ 243
theorem CmdIn.zero (k w : UInt8) (e : Int) (fs : List command_Field) : CmdIn ⟨k, w, [], e, fs⟩ := ⟨by simp, by simp⟩
theorem cut_ok {b : List UInt8} (hf : b.length ≤ 700) : ∃ x rest e, command_cut_m b = some (x, rest, e) ∧ (e = 0 → x.length + rest.length + 2 = b.length ∧ 1 ≤ x.length) := by
  unfold command_cut_m
  by_cases h : (b.length : Int) < 2
  · rw [if_pos h]; exact ⟨_, _, _, rfl, fun h => by cases h⟩
  · rw [if_neg h]
    obtain ⟨y0, e0, _⟩ := ix_ok (xs := b) (i := 0) (by omega) (by omega)
    obtain ⟨y1, e1, _⟩ := ix_ok (xs := b) (i := 1) (by omega) (by omega)
    rw [e0, Option.bind_some, e1, Option.bind_some]
    generalize ior .i64 (IntKind.wrap .i64 ((y0.toNat : Int) * 2 ^ (min (Int.toNat 8) 64))) (y1.toNat : Int) = z
    have : ∃ z', (if z = 0 then some (b.length : Int) else some z) = some z' := by split <;> exact ⟨_, rfl⟩
    obtain ⟨z', hz⟩ := this
    rw [hz, Option.bind_some]
    by_cases h3 : z' < 3
    · simp only [h3, if_true, Option.bind_some]; exact ⟨_, _, _, rfl, fun h => by cases h⟩
    · by_cases h4 : z' > (b.length : Int)
      · simp only [h3, if_false, h4, decide_true, Option.bind_some, if_true]; exact ⟨_, _, _, rfl, fun h => by cases h⟩
      · simp only [h3, if_false, h4, decide_false, Option.bind_some, Bool.false_eq_true]
        rw [sub_ok (by omega) (by omega) (by omega), Option.bind_some, sub_ok (by omega) (by omega) (by omega), Option.bind_some]
        refine ⟨_, _, _, rfl, fun _ => ?_⟩
        simp
        omega

/-- What reads a command within a field's bytes. -/
def Reads (R : List UInt8 → Option (command_Command × Int)) (L : Nat) : Prop := ∀ b : List UInt8, b.length < L → b.length ≤ 700 → ∃ c e, R b = some (c, e) ∧ (e = 0 → CmdIn c)
theorem cone_ok {R : List UInt8 → Option (command_Command × Int)} {L : Nat} (hR : Reads R L) {b : List UInt8} (h1 : 1 ≤ b.length) (hL : b.length < L) (h7 : b.length ≤ 700) : ∃ f ok, command_one_m R b = some (f, ok) ∧ (ok = true → CmdIn f.f_Inner ∧ f.f_Inner.f_Kind ≠ 243) := by
  unfold command_one_m
  obtain ⟨y, hy, _⟩ := ix_ok (xs := b) (i := 0) (by omega) (by omega)
  have hz : CmdIn (⟨0, 0, [], 0, []⟩ : command_Command) := CmdIn.zero _ _ _ _
  have hsub : sub b 1 (b.length : Int) = some ((b.take (b.length : Int).toNat).drop 1) := sub_ok (by omega) (by omega) (by omega)
  have hlen : ((b.take (b.length : Int).toNat).drop 1).length = b.length - 1 := by simp
  rw [hy, Option.bind_some, hsub]
  generalize (b.take (b.length : Int).toNat).drop 1 = x at hlen
  simp only [Option.bind_some]
  by_cases k1 : y = 1
  · rw [if_pos k1]
    unfold command_read_m
    by_cases hl : (x.length : Int) ≠ 2
    · rw [if_pos hl]; exact ⟨_, _, rfl, fun h => by cases h⟩
    · rw [if_neg hl]
      obtain ⟨y0, e0, _⟩ := ix_ok (xs := x) (i := 0) (by omega) (by omega)
      obtain ⟨y1, e1, _⟩ := ix_ok (xs := x) (i := 1) (by omega) (by omega)
      simp only [e0, e1, Option.bind_some, ite_some]
      refine ⟨_, _, rfl, fun _ => ?_⟩
      repeat' split
      all_goals exact ⟨hz, fun h : (0 : UInt8) = 243 => absurd h (by decide)⟩
  · rw [if_neg k1]
    by_cases k2 : y = 3
    · rw [if_pos k2]
      unfold command_reset_m
      by_cases hl : (x.length : Int) ≠ 1
      · simp only [hl, ne_eq, not_false_eq_true, if_true, Option.bind_some]
        exact ⟨_, _, rfl, fun h => by cases h⟩
      · obtain ⟨y0, e0, _⟩ := ix_ok (xs := x) (i := 0) (by omega) (by omega)
        simp only [hl, if_false, e0, Option.bind_some, ite_some]
        refine ⟨_, _, rfl, fun _ => ?_⟩
        repeat' split
        all_goals exact ⟨hz, fun h : (0 : UInt8) = 243 => absurd h (by decide)⟩
    · rw [if_neg k2]
      by_cases k3 : y = 64
      · rw [if_pos k3]
        unfold command_write_m
        by_cases hl : (x.length : Int) < 2
        · simp only [hl, if_true, Option.bind_some]
          exact ⟨_, _, rfl, fun h => by cases h⟩
        · obtain ⟨y0, e0, _⟩ := ix_ok (xs := x) (i := 0) (by omega) (by omega)
          simp only [hl, if_false, e0, Option.bind_some]
          by_cases k4 : y0 ≠ 0
          · simp only [k4, ne_eq, not_false_eq_true, decide_true, if_true, Option.bind_some]
            exact ⟨_, _, rfl, fun h => by cases h⟩
          · simp only [k4, decide_false, if_false, Option.bind_some, Bool.false_eq_true]
            rw [sub_ok (by omega) (by omega) (by omega), Option.bind_some]
            obtain ⟨c, e, h3, h4⟩ := hR ((x.take (x.length : Int).toNat).drop (Int.toNat 1)) (by simp; omega) (by simp; omega)
            rw [h3, Option.bind_some]
            by_cases he : e = 0
            · simp only [he, if_true]
              unfold command_inner_m
              rw [writes_ok]
              simp only [Option.bind_some, ite_some]
              refine ⟨_, _, rfl, fun hok => ⟨h4 he, ?_⟩⟩
              intro hk
              have hk' : c.f_Kind = 243 := hk
              rw [hk'] at hok
              exact absurd hok (by decide)
            · simp only [he, if_false, Option.bind_some]
              exact ⟨_, _, rfl, fun h => by cases h⟩
      · rw [if_neg k3]; exact ⟨_, _, rfl, fun h => by cases h⟩
theorem fields_l1 {R : List UInt8 → Option (command_Command × Int)} {L : Nat} (hR : Reads R L) : ∀ (n : Nat) (acc : List command_Field) (b : List UInt8), b.length < n → b.length ≤ L → acc.length + b.length ≤ 700 → (∀ f ∈ acc, CmdIn f.f_Inner ∧ f.f_Inner.f_Kind ≠ 243) →
    ∃ r, command_fields_l1 1000 R n (acc, b) = some r ∧ (match r with
      | .inl q => q.length ≤ 700 ∧ ∀ f ∈ q, CmdIn f.f_Inner ∧ f.f_Inner.f_Kind ≠ 243
      | .inr q => q.1.length ≤ 700 ∧ ∀ f ∈ q.1, CmdIn f.f_Inner ∧ f.f_Inner.f_Kind ≠ 243) := by
  intro n
  induction n with
  | zero => intro acc b h; omega
  | succ n ih =>
    intro acc b hn hL hac hf
    unfold command_fields_l1
    by_cases hb : (b.length : Int) > 0
    · simp only [hb, if_true]
      obtain ⟨x, rest, e, e1, e2⟩ := cut_ok (b := b) (by omega)
      rw [e1, Option.bind_some]
      by_cases he : e = 0
      · obtain ⟨g1, g2⟩ := e2 he
        obtain ⟨f, ok, e3, e4⟩ := cone_ok hR (b := x) g2 (by omega) (by omega)
        simp only [he, ne_eq, not_true_eq_false, if_false, e3, Option.bind_some]
        cases ok with
        | false => exact ⟨_, rfl, by show acc.length ≤ 700; omega, hf⟩
        | true =>
          simp only [Bool.not_true, Bool.false_eq_true, if_false]
          rw [app_ok (by simp; omega), Option.bind_some]
          exact ih (acc ++ [f]) rest (by omega) (by omega) (by simp; omega) (fun f' hf' => by
            rcases List.mem_append.1 hf' with h | h
            · exact hf f' h
            · rw [List.mem_singleton.1 h]; exact e4 rfl)
      · simp only [he, ne_eq, not_false_eq_true, if_true]
        exact ⟨_, rfl, by show acc.length ≤ 700; omega, hf⟩
    · rw [if_neg hb]
      exact ⟨_, rfl, by show acc.length ≤ 700; omega, hf⟩
theorem cparse_n : ∀ (n : Nat) (b : List UInt8), b.length < n → b.length ≤ 700 → ∃ c e, grp_command_Parse_mR 1000 n b = some (c, e) ∧ CmdOK c := by
  intro n
  induction n with
  | zero => intro b h; omega
  | succ n ih =>
    intro b hn hb
    have hz : ∀ e k, CmdOK (⟨k, 0, [], e, []⟩ : command_Command) := fun e k => ⟨CmdIn.zero _ _ _ _, by simp, by simp⟩
    show ∃ c e, command_Parse_f_m 1000 (grp_command_Parse_mR 1000 n) b = some (c, e) ∧ CmdOK c
    unfold command_Parse_f_m
    by_cases h0 : (b.length : Int) = 0
    · rw [if_pos h0]; exact ⟨_, _, rfl, hz _ _⟩
    · rw [if_neg h0]
      obtain ⟨y, hy, _⟩ := ix_ok (xs := b) (i := 0) (by omega) (by omega)
      obtain ⟨f, ok, hf⟩ := find_ok y
      rw [hy, Option.bind_some, hf, Option.bind_some]
      cases ok with
      | false => exact ⟨_, _, rfl, hz _ _⟩
      | true =>
        simp only [Bool.not_true, Bool.false_eq_true, if_false, writes_ok, Option.bind_some]
        by_cases hw : f.f_kind = 241 ∨ f.f_kind = 245 ∨ f.f_kind = 126
        · simp only [hw, decide_true, if_true, Option.bind_some]
          by_cases h2 : (b.length : Int) < 2
          · simp only [h2, decide_true, if_true]; exact ⟨_, _, rfl, hz _ _⟩
          · simp only [h2, decide_false, if_false, Bool.false_eq_true]
            obtain ⟨y1, hy1, _⟩ := ix_ok (xs := b) (i := 1) (by omega) (by omega)
            rw [hy1, Option.bind_some, sub_ok (by omega) (by omega) (by omega), Option.bind_some]
            obtain ⟨os, rd, e, p1, p2, p3⟩ := parse_ok (b := (b.take (b.length : Int).toNat).drop (Int.toNat 2)) (by simp; omega)
            rw [p1]
            simp only [Option.bind_some]
            exact ⟨_, _, rfl, ⟨p2, p3⟩, by simp, by simp⟩
        · simp only [hw, decide_false, if_false, Option.bind_some, Bool.false_eq_true]
          by_cases h3 : f.f_kind = 243
          · simp only [h3, if_true]
            rw [sub_ok (by omega) (by omega) (by omega), Option.bind_some]
            unfold command_fields_m
            obtain ⟨r, e1, hr⟩ := fields_l1 (R := grp_command_Parse_mR 1000 n) (L := n) (fun b' hb' hb7 => by
              obtain ⟨c, e, g1, g2⟩ := ih b' hb' hb7
              exact ⟨c, e, g1, fun _ => g2.toCmdIn⟩) 1000 [] ((b.take (b.length : Int).toNat).drop (Int.toNat 1)) (by simp; omega) (by simp; omega) (by simp; omega) (by simp)
            rw [e1, Option.bind_some]
            match r, hr with
            | .inl q, h => exact ⟨_, _, rfl, CmdIn.zero _ _ _ _, h.1, h.2⟩
            | .inr q, h => exact ⟨_, _, rfl, CmdIn.zero _ _ _ _, h.1, h.2⟩
          · simp only [h3, if_false, Option.bind_some]
            exact ⟨_, _, rfl, hz _ _⟩
theorem cparse_ok {b : List UInt8} (hb : b.length ≤ 700) : ∃ c e, command_Parse_m 1000 b = some (c, e) ∧ CmdOK c := cparse_n 1000 b (by omega) hb
end Go.Proofs.YtecipnjloenndaaGreatDoor.G
