/-
Plain laws: fields in one stream do what their writes do alone.
-/
import Derived.Test.YtecipnjloenndaaScrD
set_option linter.unusedVariables false
set_option linter.unusedSimpArgs false
set_option maxRecDepth 100000
namespace Go.Proofs.Ytecipnjloenndaa.G
open Go Go.RowKit Go.Proofs.Ytecipnjloenndaa.SX

theorem find241 : ∃ f, command_find_m 1000 241 = some (f, true) ∧ f.f_kind = 241 := by
  cases h : command_find_m 1000 241 with
  | none =>
    have h1 : (command_find_m 1000 241).isSome = true := by kernel_rfl
    rw [h] at h1
    cases h1
  | some r =>
    have h1 : (command_find_m 1000 241).map (fun r => (r.1.f_kind, r.2)) = some (241, true) := by kernel_rfl
    rw [h] at h1
    obtain ⟨f, ok⟩ := r
    simp only [Option.map_some, Option.some.injEq, Prod.mk.injEq] at h1
    exact ⟨f, by rw [h1.2], h1.1⟩
/-- A write's bytes read the same, whatever reads fields. -/
theorem parse_w (x : UInt8) {y : List UInt8} (hy : y.length ≤ 200) : ∃ c, (∀ R, command_Parse_f_m 1000 R (241 :: x :: y) = some (c, 0)) ∧ CmdOK c ∧ c.f_Kind = 241 := by
  obtain ⟨f, hf, hk⟩ := find241
  have hix : ix ((241 : UInt8) :: x :: y) 0 = some 241 := rfl
  have hix1 : ix ((241 : UInt8) :: x :: y) 1 = some x := rfl
  have hlen : ((((241 : UInt8) :: x :: y).length : Nat) : Int) = (y.length : Int) + 2 := by simp; omega
  have n0 : ¬ ((((241 : UInt8) :: x :: y).length : Nat) : Int) = 0 := by omega
  have n2 : ¬ ((((241 : UInt8) :: x :: y).length : Nat) : Int) < 2 := by omega
  obtain ⟨os, rd, e', p1, p2, p3⟩ := parse_ok (b := ((((241 : UInt8) :: x :: y).take ((((241 : UInt8) :: x :: y).length : Nat) : Int).toNat).drop (Int.toNat 2))) (by simp; omega)
  refine ⟨⟨241, x, os, e', []⟩, ?_, ⟨⟨p2, p3⟩, by simp, by simp⟩, rfl⟩
  intro R
  unfold command_Parse_f_m
  rw [if_neg n0, hix, Option.bind_some, hf, Option.bind_some]
  simp only [Bool.not_true, Bool.false_eq_true, if_false, writes_ok, hk, Option.bind_some, n2, decide_false, true_or, decide_true, if_true, hix1]
  rw [sub_ok (by omega) (by omega) (by omega), Option.bind_some, p1]
  rfl
/-- A field that holds a write. -/
def fld (y : List UInt8) : List UInt8 := [0, UInt8.ofNat (6 + y.length)] ++ ([64, 0, 241, 192] ++ y)
theorem fld_nums : ((List.range 107).all fun n => (toB (Int.fdiv (n : Int) (2 ^ (min (Int.toNat 8) 64))) == 0) && (toB (n : Int) == UInt8.ofNat n) && (ior .i64 (IntKind.wrap .i64 (((0 : UInt8).toNat : Int) * 2 ^ (min (Int.toNat 8) 64))) ((UInt8.ofNat n).toNat : Int) == (n : Int))) = true := by kernel_rfl
theorem fld_num {n : Nat} (h : n ≤ 106) : toB (Int.fdiv (n : Int) (2 ^ (min (Int.toNat 8) 64))) = 0 ∧ toB (n : Int) = UInt8.ofNat n ∧ ior .i64 (IntKind.wrap .i64 (((0 : UInt8).toNat : Int) * 2 ^ (min (Int.toNat 8) 64))) ((UInt8.ofNat n).toNat : Int) = (n : Int) := by
  have := List.all_eq_true.1 fld_nums n (List.mem_range.2 (by omega))
  simp only [Bool.and_eq_true, beq_iff_eq] at this
  exact ⟨this.1.1, this.1.2, this.2⟩
theorem cut_fld {y : List UInt8} (hy : y.length ≤ 100) (rest : List UInt8) : command_cut_m (fld y ++ rest) = some ([64, 0, 241, 192] ++ y, rest, 0) := by
  have hn := (fld_num (n := 6 + y.length) (by omega)).2.2
  have hl : (fld y ++ rest).length = 6 + y.length + rest.length := by simp [fld]; omega
  have i0 : ix (fld y ++ rest) 0 = some 0 := rfl
  have i1 : ix (fld y ++ rest) 1 = some (UInt8.ofNat (6 + y.length)) := rfl
  unfold command_cut_m
  have n1 : ¬ (((fld y ++ rest).length : Nat) : Int) < 2 := by omega
  rw [if_neg n1, i0, Option.bind_some, i1, Option.bind_some, hn]
  have n2 : ¬ (((6 + y.length : Nat) : Int)) = 0 := by omega
  have n3 : ¬ (((6 + y.length : Nat) : Int)) < 3 := by omega
  have n4 : ¬ (((6 + y.length : Nat) : Int)) > (((fld y ++ rest).length : Nat) : Int) := by omega
  simp only [n2, if_false, Option.bind_some, n3, n4, decide_false, Bool.false_eq_true]
  rw [sub_ok (by omega) (by omega) (by omega), Option.bind_some, sub_ok (by omega) (by omega) (by omega), Option.bind_some]
  have e1 : ((fld y ++ rest).take (((6 + y.length : Nat) : Int)).toNat).drop (Int.toNat 2) = [64, 0, 241, 192] ++ y := by
    have : (((6 + y.length : Nat) : Int)).toNat = (fld y).length := by simp [fld]; omega
    rw [this, List.take_left']
    · rfl
    · rfl
  have e2 : ((fld y ++ rest).take ((((fld y ++ rest).length : Nat) : Int)).toNat).drop (((6 + y.length : Nat) : Int)).toNat = rest := by
    have : (((6 + y.length : Nat) : Int)).toNat = (fld y).length := by simp [fld]; omega
    rw [this, Int.toNat_natCast, List.take_length, List.drop_left']
    rfl
  rw [e1, e2]
theorem one_fld {R : List UInt8 → Option (command_Command × Int)} {y : List UInt8} {c : command_Command} (hR : R (241 :: 192 :: y) = some (c, 0)) (hk : c.f_Kind = 241) : command_one_m R ([64, 0, 241, 192] ++ y) = some (⟨64, 0, c⟩, true) := by
  unfold command_one_m
  have i0 : ix (([64, 0, 241, 192] : List UInt8) ++ y) 0 = some 64 := rfl
  have k1 : ¬ (64 : UInt8) = 1 := by decide
  have k2 : ¬ (64 : UInt8) = 3 := by decide
  rw [i0, Option.bind_some, if_neg k1, if_neg k2, if_pos rfl, sub_ok (by omega) (by simp; omega) (by omega), Option.bind_some]
  have e1 : (((([64, 0, 241, 192] : List UInt8) ++ y).take ((([64, 0, 241, 192] : List UInt8) ++ y).length : Int).toNat).drop (Int.toNat 1)) = 0 :: 241 :: 192 :: y := by
    rw [Int.toNat_natCast, List.take_length]; rfl
  rw [e1]
  unfold command_write_m
  have i1 : ix ((0 : UInt8) :: 241 :: 192 :: y) 0 = some 0 := rfl
  have n1 : ¬ ((((0 : UInt8) :: 241 :: 192 :: y).length : Nat) : Int) < 2 := by simp; omega
  simp only [n1, if_false, i1, Option.bind_some, ne_eq, not_true, decide_false, Bool.false_eq_true]
  rw [sub_ok (by omega) (by simp; omega) (by omega), Option.bind_some]
  have e2 : ((((0 : UInt8) :: 241 :: 192 :: y).take ((((0 : UInt8) :: 241 :: 192 :: y).length : Nat) : Int).toNat).drop (Int.toNat 1)) = 241 :: 192 :: y := by
    rw [Int.toNat_natCast, List.take_length]; rfl
  rw [e2, hR, Option.bind_some]
  unfold command_inner_m
  rw [writes_ok]
  simp only [if_true, Option.bind_some, hk, true_or, decide_true]
/-- What a write's bytes read as. -/
def Cmds : List (List UInt8) → List command_Field → Prop := All2 (fun y f => (∀ R, command_Parse_f_m 1000 R (241 :: 192 :: y) = some (f.f_Inner, 0)) ∧ CmdOK f.f_Inner ∧ f.f_Inner.f_Kind = 241 ∧ f.f_ID = 64)
theorem cmds : ∀ ys : List (List UInt8), (∀ y ∈ ys, y.length ≤ 100) → ∃ fs, Cmds ys fs ∧ fs.length = ys.length ∧ ∀ (n : Nat) (acc : List command_Field), ys.length < n → acc.length + ys.length ≤ 700 → command_fields_l1 1000 (grp_command_Parse_mR 1000 999) n (acc, ys.flatMap fld) = some (.inl (acc ++ fs)) := by
  intro ys
  induction ys with
  | nil =>
    intro _
    refine ⟨[], .nil, rfl, ?_⟩
    intro n acc hn _
    match n, hn with
    | n + 1, _ => unfold command_fields_l1; simp
  | cons y ys ih =>
    intro hy
    obtain ⟨fs, h1, h2, h3⟩ := ih (fun z hz => hy z (by simp [hz]))
    obtain ⟨c, g1, g2, g3⟩ := parse_w 192 (y := y) (by have := hy y (by simp); omega)
    refine ⟨⟨64, 0, c⟩ :: fs, .cons ⟨g1, g2, g3, rfl⟩ h1, by simp [h2], ?_⟩
    intro n acc hn hacc
    match n, hn with
    | n + 1, hn =>
      unfold command_fields_l1
      have hfm : (y :: ys).flatMap fld = fld y ++ ys.flatMap fld := by simp
      have hpos : (((fld y ++ ys.flatMap fld).length : Nat) : Int) > 0 := by simp [fld]; omega
      rw [hfm]
      simp only [hpos, if_true, cut_fld (hy y (by simp)), Option.bind_some, ne_eq, not_true, if_false]
      rw [one_fld (R := grp_command_Parse_mR 1000 999) (g1 (grp_command_Parse_mR 1000 998)) g3]
      simp only [Option.bind_some, Bool.not_true, Bool.false_eq_true, if_false]
      rw [app_ok (by simp at hacc ⊢; omega), Option.bind_some, h3 n (acc ++ [(⟨64, 0, c⟩ : command_Field)]) (by simp at hn; omega) (by simp at hacc ⊢; omega)]
      simp
/-- The writes, each alone, until one goes wrong. -/
def seqr : List (List UInt8) → Bool → screen_Screen → Option (Bool × screen_Screen)
  | [], bad, s => some (bad, s)
  | y :: ys, bad, s => if bad = true then seqr ys bad s else (screen_Screen_Run_m 1000 s (241 :: 192 :: y)).bind fun o => seqr ys (decide (o.2.f_Err ≠ 0)) o.1
theorem seqr_bad : ∀ (ys : List (List UInt8)) (s : screen_Screen), seqr ys true s = some (true, s) := by
  intro ys
  induction ys with
  | nil => intro s; rfl
  | cons y ys ih => intro s; unfold seqr; rw [if_pos rfl]; exact ih s
theorem seqr_ok {a b : api_Size} : ∀ (ys : List (List UInt8)), (∀ y ∈ ys, y.length ≤ 100) → ∀ (bad : Bool) (s : screen_Screen), SI a b s → ∃ bad' s', seqr ys bad s = some (bad', s') ∧ SI a b s' := by
  intro ys
  induction ys with
  | nil => intro _ bad s h; exact ⟨bad, s, rfl, h⟩
  | cons y ys ih =>
    intro hy bad s h
    unfold seqr
    cases bad with
    | true => rw [if_pos rfl]; exact ih (fun z hz => hy z (by simp [hz])) true s h
    | false =>
      obtain ⟨s', r, e, g, _⟩ := run_ok h (xs := 241 :: 192 :: y) (by have := hy y (by simp); simp; omega)
      simp only [Bool.false_eq_true, if_false, e, Option.bind_some]
      exact ih (fun z hz => hy z (by simp [hz])) _ s' g
/-- A write alone: what its field does. -/
theorem run_w {y : List UInt8} {c : command_Command} (hp : ∀ R, command_Parse_f_m 1000 R (241 :: 192 :: y) = some (c, 0)) (hk : c.f_Kind = 241) (R : screen_Screen → command_Command → Option (screen_Screen × screen_Result)) (s : screen_Screen) : screen_Screen_Run_m 1000 s (241 :: 192 :: y) = (screen_Screen_Do_f_m 1000 R s c).bind fun o => some (o.1, o.2) := by
  unfold screen_Screen_Run_m
  have e1 : command_Parse_m 1000 (241 :: 192 :: y) = some (c, 0) := hp _
  rw [e1]
  show (screen_Screen_Do_f_m 1000 (grp_screen_Screen_Do_mR 1000 999) s c).bind _ = _
  unfold screen_Screen_Do_f_m
  rw [if_pos hk, if_pos hk]
theorem fieldsW_l1 {a b : api_Size} (R : screen_Screen → command_Command → Option (screen_Screen × screen_Result)) (hRdef : R = screen_Screen_Do_f_m 1000 (grp_screen_Screen_Do_mR 1000 998)) (c : command_Command) (hn : c.f_Fields.length ≤ 700) : ∀ (ys : List (List UInt8)) (fs : List command_Field) (n : Nat) (i : Int) (rep : UInt8) (rs al : Bool) (s : screen_Screen), Cmds ys fs → (∀ y ∈ ys, y.length ≤ 100) → SI a b s → 0 ≤ i → c.f_Fields.drop i.toNat = fs → i ≤ (c.f_Fields.length : Int) → ys.length < n →
    ∃ bad s', seqr ys false s = some (bad, s') ∧ ((bad = false ∧ ∃ rep' rs' al', screen_Screen_fields_l1 1000 c R n (i, rep, rs, al, parts s) = some (.inl (rep', rs', al', parts s'))) ∨ (bad = true ∧ ∃ e, e ≠ 0 ∧ screen_Screen_fields_l1 1000 c R n (i, rep, rs, al, parts s) = some (.inr (s', ⟨0, false, false, e⟩)))) := by
  intro ys
  induction ys with
  | nil =>
    intro fs n i rep rs al s hc hy h h0 hd hi hlt
    cases hc
    have hge : (c.f_Fields.length : Int) ≤ i := by
      have := List.drop_eq_nil_iff.1 hd
      omega
    match n, hlt with
    | n + 1, _ =>
      refine ⟨false, s, rfl, .inl ⟨rfl, rep, rs, al, ?_⟩⟩
      unfold screen_Screen_fields_l1
      have : ¬ i < (c.f_Fields.length : Int) := by omega
      simp only [parts, this, if_false]
  | cons y ys ih =>
    intro fs n i rep rs al s hc hy h h0 hd hi hlt
    cases hc with
    | @cons _ f _ fs' hf hc' =>
    obtain ⟨p1, p2, p3, p4⟩ := hf
    match n, hlt with
    | n + 1, hlt =>
      have hg : c.f_Fields[i.toNat]? = some f := by
        have := congrArg (·[0]?) hd
        simpa using this
      have hl : i < (c.f_Fields.length : Int) := by
        have := (List.getElem?_eq_some_iff.1 hg).1
        omega
      have hd' : c.f_Fields.drop (i + 1).toNat = fs' := by
        have h1 : (i + 1).toNat = i.toNat + 1 := by omega
        rw [h1, ← List.drop_drop, hd]
        rfl
      obtain ⟨s', r, e, g1, g2⟩ := run_ok h (xs := 241 :: 192 :: y) (by have := hy y (by simp); simp; omega)
      have e' := e
      rw [run_w p1 p3 (grp_screen_Screen_Do_mR 1000 998) s] at e'
      obtain ⟨o, e2, e3⟩ := Option.bind_eq_some_iff.1 e'
      have eo : o = (s', r) := by
        have := Option.some.inj e3
        exact this
      subst eo
      have hfm : screen_Screen_field_m R s f = some (s', ⟨0, r.f_Restore, r.f_Alarm, r.f_Err⟩) := by
        unfold screen_Screen_field_m
        have k1 : ¬ (64 : UInt8) = 1 := by decide
        have k2 : ¬ (64 : UInt8) = 3 := by decide
        rw [p4, if_neg k1, if_neg k2, hRdef, e2]
        rfl
      have hfm' : screen_Screen_field_m R (⟨(⟨s.f_sizes_0.f_Rows, s.f_sizes_0.f_Cols⟩ : api_Size), (⟨s.f_sizes_1.f_Rows, s.f_sizes_1.f_Cols⟩ : api_Size), s.f_which, (⟨(⟨s.f_p.f_size.f_Rows, s.f_p.f_size.f_Cols⟩ : api_Size), s.f_p.f_cells, s.f_p.f_cursor⟩ : plane_Plane)⟩ : screen_Screen) f = some (s', ⟨0, r.f_Restore, r.f_Alarm, r.f_Err⟩) := hfm
      have hix : ix c.f_Fields i = some f := ix_eq h0 hg
      unfold screen_Screen_fields_l1 seqr
      simp only [parts, hl, if_true, hix, Option.bind_some, hfm', ite_some, Bool.false_eq_true, if_false, e]
      by_cases hz : r.f_Err ≠ 0
      · simp only [hz, ne_eq, not_false_eq_true, if_true, decide_true]
        exact ⟨true, s', seqr_bad _ _, .inr ⟨rfl, r.f_Err, hz, rfl⟩⟩
      · simp only [hz, if_false, decide_false]
        have hw : w64 (i + 1) = i + 1 := w64_in (by omega)
        rw [hw]
        have G : ∀ rep' rs' al', _ := fun rep' rs' al' => ih fs' n (i + 1) rep' rs' al' s' hc' (fun z hz => hy z (by simp [hz])) g1 (by omega) hd' (by omega) (by simp at hlt; omega)
        simp only [parts] at G
        split <;> split <;> exact G _ _ _
/-- The fields in one stream do what their writes do alone. -/
theorem run_flds {a b : api_Size} {s : screen_Screen} (h : SI a b s) {ys : List (List UInt8)} (hn : ys.length ≤ 5) (hy : ∀ y ∈ ys, y.length ≤ 100) : ∃ bad s' r, seqr ys false s = some (bad, s') ∧ screen_Screen_Run_m 1000 s (243 :: ys.flatMap fld) = some (s', r) ∧ SI a b s' ∧ decide (r.f_Err ≠ 0) = bad := by
  obtain ⟨fs, h1, h2, h3⟩ := cmds ys hy
  have hfind : ∃ f, command_find_m 1000 243 = some (f, true) ∧ f.f_kind = 243 := by
    cases h : command_find_m 1000 243 with
    | none =>
      have h1 : (command_find_m 1000 243).isSome = true := by kernel_rfl
      rw [h] at h1
      cases h1
    | some r =>
      have h1 : (command_find_m 1000 243).map (fun r => (r.1.f_kind, r.2)) = some (243, true) := by kernel_rfl
      rw [h] at h1
      obtain ⟨f, ok⟩ := r
      simp only [Option.map_some, Option.some.injEq, Prod.mk.injEq] at h1
      exact ⟨f, by rw [h1.2], h1.1⟩
  obtain ⟨f, hf, hk⟩ := hfind
  have hp : command_Parse_m 1000 (243 :: ys.flatMap fld) = some (⟨243, 0, [], 0, fs⟩, 0) := by
    show command_Parse_f_m 1000 (grp_command_Parse_mR 1000 999) (243 :: ys.flatMap fld) = _
    unfold command_Parse_f_m
    have hix : ix ((243 : UInt8) :: ys.flatMap fld) 0 = some 243 := rfl
    have n0 : ¬ ((((243 : UInt8) :: ys.flatMap fld).length : Nat) : Int) = 0 := by simp; omega
    have hd : decide ((243 : UInt8) = 241 ∨ (243 : UInt8) = 245 ∨ (243 : UInt8) = 126) = false := by decide
    rw [if_neg n0, hix, Option.bind_some, hf, Option.bind_some]
    simp only [Bool.not_true, Bool.false_eq_true, if_false, writes_ok, hk, Option.bind_some, hd, if_true]
    rw [sub_ok (by omega) (by simp; omega) (by omega), Option.bind_some]
    have e1 : ((((243 : UInt8) :: ys.flatMap fld).take ((((243 : UInt8) :: ys.flatMap fld).length : Nat) : Int).toNat).drop (Int.toNat 1)) = ys.flatMap fld := by
      rw [Int.toNat_natCast, List.take_length]; rfl
    rw [e1]
    unfold command_fields_m
    rw [h3 1000 [] (by omega) (by simp; omega)]
    rfl
  have hfl := fieldsW_l1 (a := a) (b := b) _ rfl ⟨243, 0, [], 0, fs⟩ (by show fs.length ≤ 700; omega) ys fs 1000 0 0 false false s h1 hy h (by omega) rfl (by omega) (by omega)
  obtain ⟨bad, s', e1, e2⟩ := hfl
  obtain ⟨_, _, e3, g⟩ := seqr_ok ys hy false s h
  rw [e1] at e3
  obtain ⟨rfl, rfl⟩ := Prod.mk.inj (Option.some.inj e3)
  have hrun : screen_Screen_Run_m 1000 s (243 :: ys.flatMap fld) = (screen_Screen_fields_m 1000 (grp_screen_Screen_Do_mR 1000 999) s ⟨243, 0, [], 0, fs⟩).bind fun o => some (o.1, o.2) := by
    unfold screen_Screen_Run_m
    rw [hp]
    show (screen_Screen_Do_f_m 1000 (grp_screen_Screen_Do_mR 1000 999) s ⟨243, 0, [], 0, fs⟩).bind _ = _
    unfold screen_Screen_Do_f_m
    have k1 : ¬ (243 : UInt8) = 241 := by decide
    have k2 : ¬ (243 : UInt8) = 245 := by decide
    have k3 : ¬ (243 : UInt8) = 126 := by decide
    have k4 : ¬ (243 : UInt8) = 111 := by decide
    have k5 : ¬ (243 : UInt8) = 242 := by decide
    have k6 : ¬ (243 : UInt8) = 246 := by decide
    have k7 : ¬ (243 : UInt8) = 110 := by decide
    simp only [k1, k2, k3, k4, k5, k6, k7, if_false, if_true, decide_false, Bool.false_eq_true, Option.bind_some, Option.bind_assoc]
  have hm : grp_screen_Screen_Do_mR 1000 999 = screen_Screen_Do_f_m 1000 (grp_screen_Screen_Do_mR 1000 998) := rfl
  rw [hm] at hrun
  unfold screen_Screen_fields_m at hrun
  simp only [parts] at e2
  rcases e2 with ⟨rfl, rep, rs, al, e2⟩ | ⟨rfl, e, he, e2⟩
  · rw [e2] at hrun
    exact ⟨false, _, _, e1, hrun, g, rfl⟩
  · rw [e2] at hrun
    exact ⟨true, _, _, e1, hrun, g, by simpa using he⟩
theorem fieldsL_l1 {a b : api_Size} (xss : List (List UInt8)) (hx : xss.length ≤ 5) : ∀ (n : Nat) (i : Int) (bad : Bool) (body : List UInt8) (s : screen_Screen), SI a b s → 0 ≤ i → i ≤ (xss.length : Int) → (xss.length : Int) - i < n → body.length ≤ 1 + 106 * i.toNat →
    law18_ScreenFields_l1 1000 xss n (i, bad, body, parts s) = some (.inr true) ∨ ((∀ y ∈ xss.drop i.toNat, y.length ≤ 100) ∧ ∃ bad' s', seqr (xss.drop i.toNat) bad s = some (bad', s') ∧ law18_ScreenFields_l1 1000 xss n (i, bad, body, parts s) = some (.inl (bad', body ++ (xss.drop i.toNat).flatMap fld, parts s'))) := by
  intro n
  induction n with
  | zero => intro i bad body s h h0 h1 h2; omega
  | succ n ih =>
    intro i bad body s h h0 h1 h2 hbl
    unfold law18_ScreenFields_l1
    by_cases hl : i < (xss.length : Int)
    · obtain ⟨y, e1, e2⟩ := ix_ok h0 hl
      simp only [parts, hl, if_true, e1, Option.bind_some, eta2]
      by_cases hy : (y.length : Int) > 100
      · left; rw [if_pos hy]
      · rw [if_neg hy]
        have hnum := fld_num (n := 6 + y.length) (by omega)
        have hL : ((([64, 0, 241, 192] ++ y : List UInt8).length : Nat) : Int) + 2 = ((6 + y.length : Nat) : Int) := by simp; omega
        have hw6 : w64 ((6 + y.length : Nat) : Int) = ((6 + y.length : Nat) : Int) := w64_in (by omega)
        rw [app_ok (by simp; omega), Option.bind_some, hL, hw6, hnum.1, hnum.2.1, app_ok (by simp; omega), Option.bind_some, app_ok (by simp; omega), Option.bind_some]
        have hbody : body ++ [0, UInt8.ofNat (6 + y.length)] ++ ([64, 0, 241, 192] ++ y) = body ++ fld y := by simp [fld]
        rw [hbody]
        have hw : w64 (i + 1) = i + 1 := w64_in (by omega)
        have hd : xss.drop i.toNat = y :: xss.drop (i + 1).toNat := by
          have hlt : i.toNat < xss.length := by omega
          have : (i + 1).toNat = i.toNat + 1 := by omega
          rw [this, List.drop_eq_getElem_cons hlt]
          congr 1
          rw [List.getElem?_eq_getElem hlt] at e2
          exact Option.some.inj e2
        have hb2 : (body ++ fld y).length ≤ 1 + 106 * (i + 1).toNat := by
          have : (i + 1).toNat = i.toNat + 1 := by omega
          rw [this]
          simp [fld]
          omega
        have fin : ∀ bad1 s1, SI a b s1 → (seqr (xss.drop i.toNat) bad s = seqr (xss.drop (i + 1).toNat) bad1 s1) → 
            law18_ScreenFields_l1 1000 xss n (i + 1, bad1, body ++ fld y, parts s1) = some (.inr true) ∨ ((∀ y ∈ xss.drop i.toNat, y.length ≤ 100) ∧ ∃ bad' s', seqr (xss.drop i.toNat) bad s = some (bad', s') ∧ law18_ScreenFields_l1 1000 xss n (i + 1, bad1, body ++ fld y, parts s1) = some (.inl (bad', body ++ (xss.drop i.toNat).flatMap fld, parts s'))) := by
          intro bad1 s1 hs1 hseq
          rcases ih (i + 1) bad1 (body ++ fld y) s1 hs1 (by omega) (by omega) (by omega) hb2 with g | ⟨g1, bad', s', g2, g3⟩
          · exact .inl g
          · refine .inr ⟨?_, bad', s', by rw [hseq, g2], ?_⟩
            · rw [hd]; intro z hz
              rcases List.mem_cons.1 hz with rfl | hz
              · omega
              · exact g1 z hz
            · rw [g3, hd]; simp
        simp only [parts] at fin
        cases bad with
        | true =>
          simp only [Bool.not_true, Bool.false_eq_true, if_false, hw]
          exact fin true s h (by rw [hd]; conv => lhs; unfold seqr; rw [if_pos rfl])
        | false =>
          simp only [Bool.not_false, if_true]
          rw [app_ok (by simp; omega), Option.bind_some]
          obtain ⟨s', r, e, g, _⟩ := run_ok h (xs := 241 :: 192 :: y) (by simp; omega)
          have ey : ([241, 192] ++ y : List UInt8) = 241 :: 192 :: y := rfl
          rw [ey, e, Option.bind_some, hw]
          refine fin (decide (r.f_Err ≠ 0)) s' g ?_
          rw [hd]
          conv => lhs; unfold seqr
          simp only [Bool.false_eq_true, if_false, e, Option.bind_some]
    · right
      have : xss.drop i.toNat = [] := List.drop_eq_nil_iff.2 (by omega)
      rw [this]
      refine ⟨by simp, bad, s, rfl, ?_⟩
      simp only [parts, hl, if_false, List.flatMap_nil, List.append_nil]
theorem ScreenFields_true (a b : api_Size) (xss : List (List UInt8)) : law18_ScreenFields_m 1000 a b xss = some true := by
  unfold law18_ScreenFields_m
  rw [alive_ok]
  simp only [Option.bind_some, Bool.not_true, Bool.false_eq_true, if_false]
  rcases made_ok a b with ⟨ha, hb, r, e⟩ | ⟨r, e⟩
  · rw [e]
    simp only [Option.bind_some, onE, ite_some]
    by_cases hx : (xss.length : Int) > 5
    · rw [if_pos hx]
    · have hf := fresh_SI ha hb
      rw [if_neg hx, clone_ok hf, Option.bind_some]
      rcases fieldsL_l1 xss (by omega) 1000 0 false [243] (fresh a b) hf (by omega) (by omega) (by omega) (by simp) with g | ⟨g1, bad, s', g2, g3⟩
      · simp only [parts] at g
        rw [g]; rfl
      · simp only [parts] at g3
        rw [g3]
        have hd0 : xss.drop (Int.toNat 0) = xss := rfl
        rw [hd0] at g1 g2
        obtain ⟨bad2, s2, r2, q1, q2, q3, q4⟩ := run_flds hf (ys := xss) (by omega) g1
        rw [g2] at q1
        obtain ⟨rfl, rfl⟩ := Prod.mk.inj (Option.some.inj q1)
        have ec : ([243] ++ xss.flatMap fld : List UInt8) = 243 :: xss.flatMap fld := rfl
        unfold screen_Screen_Plane_m
        simp only [onS, Option.bind_some, eta2, clone_ok hf, hd0, ec, q2, q4, if_true, same_self q3.p]
  · rw [e]; rfl
end Go.Proofs.Ytecipnjloenndaa.G
