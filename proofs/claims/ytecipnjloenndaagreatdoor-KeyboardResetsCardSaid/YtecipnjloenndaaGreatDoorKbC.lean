/-
Plain laws of a keyboard: each key is done; what fails turns nothing; what is sent shuts it.
-/
import Derived.Test.YtecipnjloenndaaGreatDoorKbB
set_option linter.unusedVariables false
set_option linter.unusedSimpArgs false
set_option maxRecDepth 100000
namespace Go.Proofs.YtecipnjloenndaaGreatDoor.G
open Go Go.RowKit Go.Proofs.YtecipnjloenndaaGreatDoor.SX

abbrev KI (a b : api_Size) (k : keyboard_Keyboard) : Prop := SI a b k.f_s
theorem att_all : ((List.range 256).all fun n => (keyboard_Attention_m (UInt8.ofNat n)).isSome) = true := by kernel_rfl
theorem att_ok (y : UInt8) : ∃ r, keyboard_Attention_m y = some r :=
  Option.isSome_iff_exists.1 (u8dec (p := fun b => (keyboard_Attention_m b).isSome) att_all y)
theorem right_ok (k : keyboard_Key) : ∃ r, keyboard_right_m k = some r ∧ (r = true → k.f_Kind = 17 → keyboard_Attention_m k.f_Byte = some true) := by
  unfold keyboard_right_m
  obtain ⟨t, e⟩ := att_ok k.f_Byte
  rw [e]
  simp only [Option.bind_some]
  by_cases h1 : k.f_Kind ≥ 1
  · rw [if_pos h1]
    by_cases h2 : k.f_Kind < 17
    · rw [if_pos h2]; exact ⟨true, rfl, fun _ h => by omega⟩
    · rw [if_neg h2]
      by_cases h3 : k.f_Kind = 17
      · rw [if_pos h3]; exact ⟨t, rfl, fun h _ => by rw [h]⟩
      · rw [if_neg h3]; exact ⟨false, rfl, fun h => by cases h⟩
  · rw [if_neg h1]
    by_cases h3 : k.f_Kind = 17
    · rw [if_pos h3]; exact ⟨t, rfl, fun h _ => by rw [h]⟩
    · rw [if_neg h3]; exact ⟨false, rfl, fun h => by cases h⟩
/-- A screen with another plane of its size. -/
theorem SI.plane {a b : api_Size} {s : screen_Screen} (h : SI a b s) {q : plane_Plane} (hq : PI (if s.f_which = 0 then a else b) q) : SI a b ⟨s.f_sizes_0, s.f_sizes_1, s.f_which, q⟩ := ⟨h.za, h.zb, h.s0, h.s1, h.w, hq⟩
theorem edit_ok {a b : api_Size} {k : keyboard_Keyboard} (h : KI a b k) (key : keyboard_Key) : ∃ k' e, keyboard_Keyboard_edit_m 1000 k key = some (k', e) ∧ KI a b k' ∧ k'.f_l = k.f_l ∧ (e ≠ 0 → k'.f_s.f_p = k.f_s.f_p) := by
  unfold keyboard_Keyboard_edit_m screen_Screen_Plane_m
  rw [Option.bind_some]
  have G : ∀ (r : Option (plane_Plane × Int)), (∃ q e, r = some (q, e) ∧ PI (if k.f_s.f_which = 0 then a else b) q ∧ (e ≠ 0 → q = k.f_s.f_p)) → ∃ k' e, (r.bind fun o6 => some ((⟨(⟨k.f_s.f_sizes_0, k.f_s.f_sizes_1, k.f_s.f_which, o6.1⟩ : screen_Screen), k.f_l, k.f_insert, k.f_last⟩ : keyboard_Keyboard), o6.2)) = some (k', e) ∧ KI a b k' ∧ k'.f_l = k.f_l ∧ (e ≠ 0 → k'.f_s.f_p = k.f_s.f_p) := by
    rintro r ⟨q, e, rfl, hq, hk⟩
    exact ⟨_, e, rfl, SI.plane h hq, rfl, hk⟩
  by_cases k1 : key.f_Kind = 1
  · rw [if_pos k1]; exact G _ (Put_ok h.p _ _)
  rw [if_neg k1]
  by_cases k2 : key.f_Kind = 10
  · rw [if_pos k2]; exact G _ (End_ok h.p)
  rw [if_neg k2]
  by_cases k3 : key.f_Kind = 11
  · rw [if_pos k3]
    obtain ⟨q, n, e, hq⟩ := wipeopen_ok h.p
    rw [e]
    exact ⟨_, 0, rfl, SI.plane h hq, rfl, fun h => absurd rfl h⟩
  rw [if_neg k3]
  by_cases k4 : key.f_Kind = 12
  · rw [if_pos k4]; exact G _ (Delete_ok h.p)
  rw [if_neg k4]
  by_cases k5 : key.f_Kind = 13
  · rw [if_pos k5]; exact ⟨_, 0, rfl, h, rfl, fun h => absurd rfl h⟩
  rw [if_neg k5]
  by_cases k6 : key.f_Kind = 14
  · rw [if_pos k6]; exact G _ (Dup_ok h.p _)
  rw [if_neg k6]
  by_cases k7 : key.f_Kind = 15
  · rw [if_pos k7]; exact G _ (MarkK_ok h.p _)
  rw [if_neg k7]
  exact ⟨k, 0, rfl, h, rfl, fun h => absurd rfl h⟩
theorem fail_ok {k : keyboard_Keyboard} (e : Int) (h1 : k.f_l.f_state = 1) : ∃ l, lock_Lock_Fail_v0_m k e = some (⟨k.f_s, l, k.f_insert, k.f_last⟩, e) := by
  unfold lock_Lock_Fail_v0_m lock_Lock_May_v0_m lock_Lock_turn_v0_m
  have n1 : ¬ (k.f_l.f_state ≠ 1) := by omega
  rw [if_neg n1, Option.bind_some]
  simp only [ne_eq, not_true, if_false, ite_some, Option.bind_some]
  by_cases he : e = 0
  · exact ⟨k.f_l, by simp only [he, not_true, if_false]⟩
  · exact ⟨_, by simp only [he, not_false_eq_true, if_true]; rfl⟩
theorem send_ok {a b : api_Size} {k : keyboard_Keyboard} (h : KI a b k) (y : UInt8) (h1 : k.f_l.f_state = 1) : ∃ k', keyboard_Keyboard_send_m k y = some (k', true, 0) ∧ KI a b k' ∧ k'.f_l.f_state = 2 ∧ k'.f_last = y ∧ k'.f_insert = false := by
  unfold keyboard_Keyboard_send_m lock_Lock_Send_v0_m lock_Lock_May_v0_m lock_Lock_turn_v0_m screen_Screen_Clear_m
  have n1 : ¬ (k.f_l.f_state ≠ 1) := by omega
  rw [if_neg n1, Option.bind_some]
  simp only [ne_eq, not_true, if_false, ite_some, Option.bind_some]
  by_cases hy : y = 109
  · rw [if_pos hy]
    rw [renew_ok h (.inl rfl)]
    exact ⟨_, rfl, renew_SI h (.inl rfl), rfl, rfl, rfl⟩
  · rw [if_neg hy]
    exact ⟨_, rfl, h, rfl, rfl, rfl⟩
/-- A lock behind a reset. -/
def unlock (l : lock_Lock) : lock_Lock := if l.f_state = 3 then ⟨1, 0, w64 (l.f_turns + 1)⟩ else l
theorem press_reset (k : keyboard_Keyboard) (key : keyboard_Key) (hk : key.f_Kind = 16) : keyboard_Keyboard_Press_m 1000 k key = some (⟨k.f_s, unlock k.f_l, false, k.f_last⟩, false, 0) := by
  unfold keyboard_Keyboard_Press_m lock_Lock_Reset_v0_m lock_Lock_Open_v0_m lock_Lock_turn_v0_m unlock
  rw [if_pos hk]
  by_cases h3 : k.f_l.f_state = 3
  · have n : (1 : Int) ≠ 3 := by omega
    simp only [h3, ne_eq, not_true, if_false, if_true, n, not_false_eq_true, ite_some, Option.bind_some]
  · simp only [h3, ne_eq, not_false_eq_true, if_true, if_false, Option.bind_some]
theorem press_ok {a b : api_Size} {k : keyboard_Keyboard} (h : KI a b k) (key : keyboard_Key) : ∃ k' sent e, keyboard_Keyboard_Press_m 1000 k key = some (k', sent, e) ∧ KI a b k' ∧
    (key.f_Kind ≠ 16 → k.f_l.f_state ≠ 1 → k' = k ∧ sent = false ∧ e = 40) ∧ (key.f_Kind ≠ 16 → e ≠ 0 → k'.f_s.f_p = k.f_s.f_p) ∧
    (sent = true → k'.f_l.f_state ≠ 1 ∧ k'.f_last = key.f_Byte ∧ k'.f_insert = false ∧ keyboard_Attention_m key.f_Byte = some true ∧ e = 0) := by
  by_cases hk : key.f_Kind = 16
  · exact ⟨_, _, _, press_reset k key hk, h, fun h => absurd hk h, fun h => absurd hk h, fun h => by cases h⟩
  · unfold keyboard_Keyboard_Press_m lock_Lock_May_v0_m
    rw [if_neg hk]
    by_cases h1 : k.f_l.f_state ≠ 1
    · rw [if_pos h1, Option.bind_some]
      exact ⟨k, false, 40, rfl, h, fun _ _ => ⟨rfl, rfl, rfl⟩, fun _ _ => rfl, fun h => by cases h⟩
    · have h1' : k.f_l.f_state = 1 := by omega
      rw [if_neg h1, Option.bind_some]
      obtain ⟨r, er, hr⟩ := right_ok key
      simp only [ne_eq, not_true, if_false, er, Option.bind_some]
      cases r with
      | false => exact ⟨k, false, 1, rfl, h, fun _ h => absurd h1' h, fun _ _ => rfl, fun h => by cases h⟩
      | true =>
        simp only [Bool.not_true, Bool.false_eq_true, if_false]
        by_cases h17 : key.f_Kind = 17
        · rw [if_pos h17]
          obtain ⟨k', e, g1, g2, g3, g4⟩ := send_ok h key.f_Byte h1'
          rw [e]
          exact ⟨k', true, 0, rfl, g1, fun _ h => absurd h1' h, fun _ h => absurd rfl h, fun _ => ⟨by omega, g3, g4, hr rfl h17, rfl⟩⟩
        · rw [if_neg h17]
          unfold screen_Screen_Plane_m
          rw [Option.bind_some]
          obtain ⟨q, bm, em, hq, hqp⟩ := move_key h.p key.f_Kind
          rw [em, Option.bind_some]
          cases bm with
          | true => exact ⟨_, false, 0, rfl, SI.plane h hq, fun _ h => absurd h1' h, fun _ h => absurd rfl h, fun h => by cases h⟩
          | false =>
            simp only [Bool.false_eq_true, if_false]
            obtain ⟨k2, e, e2, g1, g2, g3⟩ := edit_ok (k := ⟨⟨k.f_s.f_sizes_0, k.f_s.f_sizes_1, k.f_s.f_which, q⟩, k.f_l, k.f_insert, k.f_last⟩) (SI.plane h hq) key
            rw [e2, Option.bind_some]
            obtain ⟨l, e3⟩ := fail_ok (k := k2) e (by rw [g2]; exact h1')
            rw [e3]
            refine ⟨_, false, e, rfl, g1, fun _ h => absurd h1' h, fun _ he => ?_, fun h => by cases h⟩
            have := g3 he
            show k2.f_s.f_p = k.f_s.f_p
            rw [this, ← hqp rfl]
theorem press_insert {a b : api_Size} {k : keyboard_Keyboard} (h : KI a b k) (x : UInt8) : keyboard_Keyboard_Press_m 1000 k ⟨13, x⟩ = if k.f_l.f_state = 1 then some (⟨k.f_s, k.f_l, !k.f_insert, k.f_last⟩, false, 0) else some (k, false, 40) := by
  unfold keyboard_Keyboard_Press_m lock_Lock_May_v0_m
  have n16 : ¬ (13 : Int) = 16 := by omega
  have n17 : ¬ (13 : Int) = 17 := by omega
  by_cases h1 : k.f_l.f_state = 1
  · have hr : keyboard_right_m ⟨13, x⟩ = some true := rfl
    have hm : keyboard_move_m 1000 k.f_s.f_p 13 = some (k.f_s.f_p, false) := rfl
    have he : keyboard_Keyboard_edit_m 1000 k ⟨13, x⟩ = some (⟨k.f_s, k.f_l, !k.f_insert, k.f_last⟩, 0) := rfl
    have hf : lock_Lock_Fail_v0_m ⟨k.f_s, k.f_l, !k.f_insert, k.f_last⟩ 0 = some (⟨k.f_s, k.f_l, !k.f_insert, k.f_last⟩, 0) := by
      unfold lock_Lock_Fail_v0_m lock_Lock_May_v0_m
      simp only [h1, ne_eq, not_true, if_false, Option.bind_some]
    unfold screen_Screen_Plane_m
    simp only [n16, n17, if_false, h1, ne_eq, not_true, if_true, Option.bind_some, hr, Bool.not_true, Bool.false_eq_true, hm]
    show ((keyboard_Keyboard_edit_m 1000 k ⟨13, x⟩).bind _) = _
    rw [he, Option.bind_some, hf]
    rfl
  · simp only [n16, if_false, h1, ne_eq, not_false_eq_true, if_true, Option.bind_some]
    rfl
theorem host_ok {a b : api_Size} {k : keyboard_Keyboard} (h : KI a b k) (r : screen_Result) : ∃ k', keyboard_Keyboard_Host_m k r = some k' ∧ KI a b k' := by
  unfold keyboard_Keyboard_Host_m lock_Lock_Restore_v0_m lock_Lock_Open_v0_m lock_Lock_turn_v0_m
  by_cases hr : r.f_Restore = true
  · rw [if_pos hr]
    simp only [ite_some, Option.bind_some]
    generalize (if k.f_l.f_state ≠ 3 then decide (k.f_l.f_state ≠ 2) else false) = z
    cases z with
    | true => exact ⟨_, rfl, h⟩
    | false => exact ⟨_, rfl, h⟩
  · rw [if_neg hr]; exact ⟨k, rfl, h⟩
theorem open_lock {a b : api_Size} {k : keyboard_Keyboard} (h : KI a b k) : ∃ k', lock_Lock_Open_v0_m k = some k' ∧ KI a b k' := by
  unfold lock_Lock_Open_v0_m lock_Lock_turn_v0_m
  simp only [ite_some, Option.bind_some]
  exact ⟨_, rfl, h⟩
theorem shut_lock {a b : api_Size} {k : keyboard_Keyboard} (h : KI a b k) : ∃ k', lock_Lock_Shut_v0_m k = some k' ∧ KI a b k' := by
  unfold lock_Lock_Shut_v0_m lock_Lock_turn_v0_m
  simp only [ite_some, Option.bind_some]
  exact ⟨_, rfl, h⟩

/-! ### What a law begins with -/
end Go.Proofs.YtecipnjloenndaaGreatDoor.G
