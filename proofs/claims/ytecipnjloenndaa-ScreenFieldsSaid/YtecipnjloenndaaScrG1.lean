/-
The walk of the seat, by program: each function's model, and its contract. Part 1.
-/
import Derived.Test.YtecipnjloenndaaScrG0
import Derived.Test.YtecipnjloenndaaProg
set_option linter.unusedVariables false
set_option linter.unusedSimpArgs false
set_option maxRecDepth 20000
set_option maxHeartbeats 2000000
namespace Go.Proofs.Ytecipnjloenndaa.G
open Go Go.RowKit Go.Proofs.Ytecipnjloenndaa.SX
-- greenscreen/command.fields
def command_fields_l1 (K : Nat) (R_command_Parse : ((List UInt8) → Option (command_Command × Int))) : Nat → ((List command_Field) × (List UInt8)) → Option (Sum ((List command_Field)) ((List command_Field) × Int))
  | 0, _ => none
  | n + 1, s1 => (if (s1.2.length : Int) > 0 then (command_cut_m s1.2).bind fun o7 => (if o7.2.2 ≠ 0 then some (Sum.inr (s1.1, o7.2.2)) else (command_one_m R_command_Parse o7.1).bind fun o11 => (if (!o11.2) = true then some (Sum.inr (s1.1, 34)) else (app s1.1 ([o11.1] : List command_Field)).bind fun zs19 => (command_fields_l1 K R_command_Parse n) (zs19, o7.2.1))) else some (Sum.inl s1.1))
def command_fields_m (K : Nat) (R_command_Parse : ((List UInt8) → Option (command_Command × Int))) (a0 : (List UInt8)) : Option ((List command_Field) × Int) := (command_fields_l1 K R_command_Parse K ([], a0)).bind (onS fun (s22 : (List command_Field)) => some (s22, 0))
theorem command_fields_c (K : Nat) (R_command_Parse : ((List UInt8) → Option (command_Command × Int))) (hR_command_Parse : ∀ (a0 : (List UInt8)) (v0_0 : Value), Con Try.prog 19 #[v0_0] [.ro (kSl kB) [v0_0] a0] (R_command_Parse a0) (fun (o : command_Command × Int) (x : Value × Value) => .tuple #[.agg #[vB o.1.f_Kind, vB o.1.f_WCC, x.1, .int .i64 o.1.f_Err, x.2], .int .i64 o.2]) (fun (o : command_Command × Int) (x : Value × Value) => [.ro (kSl k_api_Order) [x.1] o.1.f_Orders, .ro (kSl k_command_Field) [x.2] o.1.f_Fields])) (a0 : (List UInt8)) (v0_0 : Value) : Con Try.prog 31 #[v0_0] [.ro (kSl kB) [v0_0] a0] (command_fields_m K R_command_Parse a0) (fun (o : (List command_Field) × Int) (x : Value) => .tuple #[x, .int .i64 o.2]) (fun (o : (List command_Field) × Int) (x : Value) => [.ro (kSl k_command_Field) [x] o.1]) := by
  unfold command_fields_m
  refine con (args := [v0_0]) Try.func31 rfl 37 rfl (.c .n) rfl fun c hD hrn => ?_
  refine cSeq ?_
  refine cRegion ?_
  refine lRd (dAssign (.c rfl)) rfl rfl ?_
  refine lRd (dAssign (.c rfl)) rfl rfl ?_
  refine lNil ?_
  refine xCode ?_
  refine cSeq ?_
  refine cRegion ?_
  refine lRd (dAssign (.c rfl)) rfl rfl ?_
  refine lNil ?_
  refine xCode ?_
  refine cSeq ?_
  refine cSt (ownNil 102 k_command_Field) ?_
  refine cLoopR (S := (List command_Field) × (List UInt8)) (X := Value × Value) (S' := (List command_Field)) (X' := Value) (command_fields_l1 K R_command_Parse) (fun (s : (List command_Field) × (List UInt8)) (x : Value × Value) => [(4, x.1), (3, .int .i64 0), (2, .slice none 0 0), (0, x.2)]) (fun (s : (List command_Field) × (List UInt8)) (x : Value × Value) => [.ro (kSl kB) [x.2] s.2, .own x.1 102 k_command_Field s.1]) (fun (s : (List command_Field)) (x : Value) => [(4, x), (3, .int .i64 0), (2, .slice none 0 0)]) (fun (s : (List command_Field)) (x : Value) => [.own x 102 k_command_Field s]) K ([], a0) (.slice none 0 0, v0_0) (.c .z (.c (.s .z) (.c (.s (.s .z)) (.c (.s (.s (.s .z))) .n)))) (.c (.s .z) (.c .z .nil)) (fun _ => rfl) (fun n3 I4 h5 s1 x2 => ?_) (fun s22 x23 => ?_)
  · rw [command_fields_l1]
    refine cSeq ?_
    refine cSeq ?_
    refine cRegion ?_
    refine lRd (dMove (.t (.s (.s (.s .z))))) rfl rfl ?_
    refine lRd (dLen (at_ := #[34]) (slRo .z) rfl und_34 (.t .z)) rfl rfl ?_
    refine lRd (dGt (.t .z) (.c rfl)) rfl rfl ?_
    refine lNil ?_
    refine xCode ?_
    refine cCond (.t .z) (fun h6 => ?_) (fun h6 => ?_)
    · refine cSkip ?_
      refine xCode ?_
      refine cBlock ?_
      refine cSeq ?_
      refine cRegion ?_
      refine lRd (dMove (.t (.s (.s (.s (.s (.s (.s .z)))))))) rfl rfl ?_
      refine lCall fok_45 (.c (.t .z) .n) (command_cut_c s1.2 x2.2) (.r .z .n) rfl rfl fun o7 x8 h9 => ?_
      refine lRd (dMove (.t .z)) rfl rfl ?_
      refine lRd (dExtract (.t .z) rfl) rfl rfl ?_
      refine lRd (dExtract (.t (.s .z)) rfl) rfl rfl ?_
      refine lRd (dExtract (.t (.s (.s .z))) rfl) rfl rfl ?_
      refine lRd (dAssign (.t (.s (.s .z)))) rfl rfl ?_
      refine lRd (dAssign (.t (.s (.s .z)))) rfl rfl ?_
      refine lRd (dAssign (.t (.s (.s .z)))) rfl rfl ?_
      refine lNil ?_
      refine xCode ?_
      refine cSeq ?_
      refine cSeq ?_
      refine cRegion ?_
      refine lRd (dMove (.t .z)) rfl rfl ?_
      refine lRd (dNe (.t .z) (.c rfl)) rfl rfl ?_
      refine lNil ?_
      refine xCode ?_
      refine cCond (.t .z) (fun h10 => ?_) (fun h10 => ?_)
      · refine cSeq ?_
        refine cRegion ?_
        refine lRd (dMove (.t (.s (.s (.s (.s (.s (.s (.s (.s (.s (.s (.s (.s (.s (.s .z)))))))))))))))) rfl rfl ?_
        refine lRd (dMove (.t (.s (.s (.s .z))))) rfl rfl ?_
        refine lRdK (dAssign (.t (.s .z))) (.k (.k (.k (.k (.k (.k (.k (.k (.k (.k (.k (.k (.k (.k (.k (.k (.k (.k (.d (Keep.refl _)))))))))))))))))))) rfl rfl ?_
        refine lRdK (dAssign (.t (.s .z))) (.k (.k (.k (.k (.k (.k (.k (.k (.k (.k (.k (.k (.k (.k (.k (.k (.k (.k (.d (Keep.refl _)))))))))))))))))))) rfl rfl ?_
        refine lNil ?_
        refine xCode ?_
        refine cRet ?_
        refine rInner ?_
        refine rLeave hD ?_
        refine lvSt (SX.freeze (Upd.s (Upd.s (Upd.s Upd.z)))) ?_
        exact lvRet (rs := [.tmp 2, .tmp 3]) rfl (.t (.s .z) (.t .z .n)) x2.1 rfl (.c (.s (.s (.s .z))) .nil)
      · refine cSkip ?_
        refine xCode ?_
        refine cSeq ?_
        refine cRegion ?_
        refine lRd (dMove (.t (.s (.s (.s (.s .z)))))) rfl rfl ?_
        refine lCall fok_46 (.c (.t .z) .n) (command_one_c R_command_Parse hR_command_Parse o7.1 x8.1) (.r .z .n) rfl rfl fun o11 x12 h13 => ?_
        refine lRd (dMove (.t .z)) rfl rfl ?_
        refine lRd (dExtract (.t .z) rfl) rfl rfl ?_
        refine lRd (dExtract (.t (.s .z)) rfl) rfl rfl ?_
        refine lCh (cAlloc (cs := [vB 0, vB 0, vB 0, vB 0, .slice none 0 0, .int .i64 0, .slice none 0 0]) zer_102 rfl) rfl rfl fun b14 => ?_
        refine lFact (oneRo (.s .z)) fun h15 => ?_
        refine lFact (oneRo (.s (.s .z))) fun h16 => ?_
        refine lChU (uStoreA (us := [vB o11.1.f_ID, vB o11.1.f_Op, vB o11.1.f_Inner.f_Kind, vB o11.1.f_Inner.f_WCC, x12.1, .int .i64 o11.1.f_Inner.f_Err, x12.2]) (cs' := [vB o11.1.f_ID, vB o11.1.f_Op, vB o11.1.f_Inner.f_Kind, vB o11.1.f_Inner.f_WCC, x12.1, .int .i64 o11.1.f_Inner.f_Err, x12.2]) .z siz_102 rfl (by intro u hu; simp only [List.mem_cons, List.not_mem_nil, or_false] at hu; rcases hu with rfl | rfl | rfl | rfl | rfl | rfl | rfl <;> first | rfl | assumption) rfl (by simp) (.t .z) (.t (.s (.s .z)))) ?_
        refine lRd (dAssign (.t (.s .z))) rfl rfl ?_
        refine lNil ?_
        refine xCode ?_
        refine cSeq ?_
        refine cSeq ?_
        refine cRegion ?_
        refine lRd (dMove (.t .z)) rfl rfl ?_
        refine lRd (dNot (.t .z)) rfl rfl ?_
        refine lNil ?_
        refine xCode ?_
        refine cCondB (.t .z) (fun h17 => ?_) (fun h17 => ?_)
        · refine cSeq ?_
          refine cRegion ?_
          refine lRd (dMove (.t (.s (.s (.s (.s (.s (.s (.s (.s (.s (.s (.s (.s (.s (.s (.s (.s (.s (.s (.s (.s (.s (.s (.s .z))))))))))))))))))))))))) rfl rfl ?_
          refine lRdK (dAssign (.t .z)) (.k (.k (.k (.k (.k (.k (.k (.k (.k (.k (.k (.k (.k (.k (.k (.k (.k (.k (.k (.k (.k (.k (.k (.k (.k (.k (.d (Keep.refl _)))))))))))))))))))))))))))) rfl rfl ?_
          refine lRdK (dAssign (.c rfl)) (.k (.k (.k (.k (.k (.k (.k (.k (.k (.k (.k (.k (.k (.k (.k (.k (.k (.k (.k (.k (.k (.k (.k (.k (.k (.k (.d (Keep.refl _)))))))))))))))))))))))))))) rfl rfl ?_
          refine lNil ?_
          refine xCode ?_
          refine cRet ?_
          refine rInner ?_
          refine rLeave hD ?_
          refine lvSt (SX.freeze (Upd.s (Upd.s (Upd.s (Upd.s (Upd.s (Upd.s Upd.z))))))) ?_
          exact lvRet (rs := [.tmp 2, .tmp 3]) rfl (.t (.s .z) (.t .z .n)) x2.1 rfl (.c (.s (.s (.s (.s (.s (.s .z)))))) .nil)
        · refine cSkip ?_
          refine xCode ?_
          refine cRegion ?_
          refine lRd (dMove (.t (.s (.s (.s (.s (.s (.s (.s (.s (.s (.s (.s (.s (.s (.s (.s (.s (.s (.s (.s (.s (.s (.s (.s .z))))))))))))))))))))))))) rfl rfl ?_
          refine lRd (dLoadA (us := [vB o11.1.f_ID, vB o11.1.f_Op, vB o11.1.f_Inner.f_Kind, vB o11.1.f_Inner.f_WCC, x12.1, .int .i64 o11.1.f_Inner.f_Err, x12.2]) .z agg_102 siz_102 rfl (.t (.s (.s (.s (.s .z))))) rfl) rfl rfl ?_
          refine lCh (cBuildSlice (te := 102) (k := k_command_Field) (css := [[vB o11.1.f_ID, vB o11.1.f_Op, vB o11.1.f_Inner.f_Kind, vB o11.1.f_Inner.f_WCC, x12.1, .int .i64 o11.1.f_Inner.f_Err, x12.2]]) (xs := ([o11.1] : List command_Field)) und_56 siz_102 zer_102 rfl (by decide) rfl (.c (.t .z) .n) rfl (fun zs h => match zs, h with | [_, _, _, _, _, _, _], _ => rfl) rfl (fun R h hs => (.cons (k_command_Field_iff.2 ⟨x12.1, x12.2, rfl, roAt (.s .z) hs, roAt (.s (.s .z)) hs⟩) .nil))) rfl rfl fun b18 => ?_
          refine lBind fun zs19 h20 => ?_
          refine lCh (cAppend (xs := s1.1) (ys := ([o11.1] : List command_Field)) (.s (.s (.s (.s (.s (.s (.s .z))))))) (srcOwn .z) (.t (.s (.s .z))) (.t .z) und_56 und_56 rfl inf_102 rfl (by decide) h20) rfl rfl fun v21 => ?_
          refine lRd (dMove (.t (.s (.s (.s (.s (.s (.s (.s (.s (.s (.s (.s (.s (.s (.s (.s (.s .z)))))))))))))))))) rfl rfl ?_
          refine lRdK (dAssign (.t (.s .z))) (.k (.k (.k (.k (.k (.k (.k (.k (.k (.k (.k (.k (.k (.k (.k (.k (.k (.k (.k (.k (.k (.k (.k (.k (.k (.k (.k (.k (.d (Keep.refl _)))))))))))))))))))))))))))))) rfl rfl ?_
          refine lRdK (dAssign (.t (.s .z))) (.k (.k (.k (.k (.k (.k (.k (.k (.k (.k (.k (.k (.k (.k (.k (.k (.k (.k (.k (.k (.k (.k (.k (.k (.k (.k (.k (.k (.k (.k (.k (.d (Keep.refl _))))))))))))))))))))))))))))))))) rfl rfl ?_
          refine lNil ?_
          refine xBlock ?_
          exact xRound h5 (zs19, o7.2.1) (v21, x8.2) (.c (.s .z) (.c (.s (.s (.s (.s (.s (.s (.s (.s (.s (.s (.s (.s (.s (.s (.s (.s (.s (.s (.s (.s (.s (.s (.s (.s (.s (.s (.s (.s (.s (.s .z)))))))))))))))))))))))))))))) (.c (.s (.s (.s (.s (.s (.s (.s (.s (.s (.s (.s (.s (.s (.s (.s (.s (.s (.s (.s (.s (.s (.s (.s (.s (.s (.s (.s (.s (.s (.s (.s .z))))))))))))))))))))))))))))))) (.c .z .n)))) (.c (.s (.s (.s (.s (.s (.s .z)))))) (.c .z .nil))
    · refine cExit ?_
      refine xOver ?_
      refine xOverF ?_
      exact xBreakR s1.1 x2.1 (.c (.s (.s (.s .z))) (.c (.s (.s (.s (.s .z)))) (.c (.s (.s (.s (.s (.s .z))))) .n))) (.c (.s .z) .nil)
  · refine xCode ?_
    refine cSeq ?_
    refine cRegion ?_
    refine lRd (dMove (.t .z)) rfl rfl ?_
    refine lRdK (dAssign (.t .z)) (.k (.k (.k (.d (Keep.refl _))))) rfl rfl ?_
    refine lRdK (dAssign (.c rfl)) (.k (.k (.k (.d (Keep.refl _))))) rfl rfl ?_
    refine lKeep (.k (.k .n)) ?_
    refine lNil ?_
    refine xCode ?_
    refine cRet ?_
    refine rLeave hD ?_
    refine lvSt (SX.freeze Upd.z) ?_
    exact lvRet (rs := [.tmp 2, .tmp 3]) rfl (.t (.s .z) (.t .z .n)) x23 rfl (.c .z .nil)

-- greenscreen/command.Parse
def command_Parse_f_m (K : Nat) (R_command_Parse : ((List UInt8) → Option (command_Command × Int))) (a0 : (List UInt8)) : Option (command_Command × Int) := (if (a0.length : Int) = 0 then some ((⟨0, 0, [], 0, []⟩ : command_Command), 30) else (ix a0 0).bind fun y3 => (command_find_m K y3).bind fun o6 => (if (!o6.2) = true then some ((⟨0, 0, [], 0, []⟩ : command_Command), 30) else ((command_writes_m o6.1.f_kind).bind fun o12 => (if o12 = true then some (decide ((a0.length : Int) < 2)) else some false)).bind fun (s16 : Bool) => (if s16 = true then some ((⟨0, 0, [], 0, []⟩ : command_Command), 20) else (command_writes_m o6.1.f_kind).bind fun o19 => ((if o19 = true then (ix a0 1).bind fun y23 => (sub a0 2 (a0.length : Int)).bind fun r26 => (order_Parse_m K r26).bind fun o28 => some (y23, o28.1, o28.2.2, []) else (if o6.1.f_kind = (243 : UInt8) then (sub a0 1 (a0.length : Int)).bind fun r33 => (command_fields_m K R_command_Parse r33).bind fun o35 => some (0, [], o35.2, o35.1) else some (0, [], 0, [])))).bind fun (s39 : UInt8 × (List api_Order) × Int × (List command_Field)) => some ((⟨o6.1.f_kind, s39.1, s39.2.1, s39.2.2.1, s39.2.2.2⟩ : command_Command), 0))))
theorem command_Parse_f_c (K : Nat) (R_command_Parse : ((List UInt8) → Option (command_Command × Int))) (hR_command_Parse : ∀ (a0 : (List UInt8)) (v0_0 : Value), Con Try.prog 19 #[v0_0] [.ro (kSl kB) [v0_0] a0] (R_command_Parse a0) (fun (o : command_Command × Int) (x : Value × Value) => .tuple #[.agg #[vB o.1.f_Kind, vB o.1.f_WCC, x.1, .int .i64 o.1.f_Err, x.2], .int .i64 o.2]) (fun (o : command_Command × Int) (x : Value × Value) => [.ro (kSl k_api_Order) [x.1] o.1.f_Orders, .ro (kSl k_command_Field) [x.2] o.1.f_Fields])) (a0 : (List UInt8)) (v0_0 : Value) : Con Try.prog 19 #[v0_0] [.ro (kSl kB) [v0_0] a0] (command_Parse_f_m K R_command_Parse a0) (fun (o : command_Command × Int) (x : Value × Value) => .tuple #[.agg #[vB o.1.f_Kind, vB o.1.f_WCC, x.1, .int .i64 o.1.f_Err, x.2], .int .i64 o.2]) (fun (o : command_Command × Int) (x : Value × Value) => [.ro (kSl k_api_Order) [x.1] o.1.f_Orders, .ro (kSl k_command_Field) [x.2] o.1.f_Fields]) := by
  unfold command_Parse_f_m
  refine con (args := [v0_0]) Try.func19 rfl 65 rfl (.c .n) rfl fun c hD hrn => ?_
  refine cSeq ?_
  refine cRegion ?_
  refine lCh (cAlloc (cs := [vB 0, vB 0, .slice none 0 0, .int .i64 0, .slice none 0 0]) zer_58 rfl) rfl rfl fun b1 => ?_
  refine lRd (dAssign (.c rfl)) rfl rfl ?_
  refine lNil ?_
  refine xCode ?_
  refine cSeq ?_
  refine cSeq ?_
  refine cRegion ?_
  refine lRd (dMove (.t (.s (.s .z)))) rfl rfl ?_
  refine lRd (dLen (at_ := #[34]) (slRo (.s .z)) rfl und_34 (.t .z)) rfl rfl ?_
  refine lRd (dEq (.t .z) (.c rfl)) rfl rfl ?_
  refine lKeep (.k (.d (.d (.k (.k (.k .n)))))) ?_
  refine lNil ?_
  refine xCode ?_
  refine cCond (.t .z) (fun h2 => ?_) (fun h2 => ?_)
  · refine cSeq ?_
    refine cRegion ?_
    refine lRd (dBuild (cs := [vB 0, vB 0, .slice none 0 0, .int .i64 0, .slice none 0 0]) zer_58 rfl plc_58 .n rfl) rfl rfl ?_
    refine lChU (uStoreA (us := [vB 0, vB 0, .slice none 0 0, .int .i64 0, .slice none 0 0]) (cs' := [vB 0, vB 0, .slice none 0 0, .int .i64 0, .slice none 0 0]) .z siz_58 rfl (by intro u hu; simp only [List.mem_cons, List.not_mem_nil, or_false] at hu; rcases hu with rfl | rfl | rfl | rfl | rfl <;> first | rfl | assumption) rfl (by simp) (.t (.s (.s (.s .z)))) (.t .z)) ?_
    refine lRdK (dAssign (.c rfl)) (.k (.k (.d (Keep.refl _)))) rfl rfl ?_
    refine lKeep (.k (.d (.d (.k (.k .n))))) ?_
    refine lNil ?_
    refine xCode ?_
    refine cRet ?_
    refine rLeave hD ?_
    refine lvSt (roNil k_api_Order) ?_
    refine lvSt (roNil k_command_Field) ?_
    exact lvRet (rs := [.cell 2 58, .tmp 3]) rfl (.a (.s .z) (.s (.s .z)) agg_58 siz_58 (.t .z .n)) (.slice none 0 0, .slice none 0 0) rfl (.c (.s .z) (.c .z .nil))
  · refine cSkip ?_
    refine xCode ?_
    refine cSeq ?_
    refine cRegion ?_
    refine lRd (dMove (.t (.s (.s (.s .z))))) rfl rfl ?_
    refine lIx fun y3 h4 h5 => ?_
    refine lRd (dIxAddr (slRo (.s .z)) und_34 siz_5 (.t .z) (.c rfl) h4 h5) rfl rfl ?_
    refine lRd (dLoadE (slRo (.s .z)) agg_5 (.t .z) h5 (fun _ _ h => by cases h; rfl)) rfl rfl ?_
    refine lCall fok_28 (.c (.t .z) .n) (command_find_c K y3) .n rfl rfl fun o6 x7 h8 => ?_
    refine lRd (dMove (.t .z)) rfl rfl ?_
    refine lRd (dExtract (.t .z) rfl) rfl rfl ?_
    refine lRd (dExtract (.t (.s .z)) rfl) rfl rfl ?_
    refine lCh (cAlloc (cs := [vB 0, vB 0, vS []]) zer_73 rfl) rfl rfl fun b9 => ?_
    refine lChU (uStoreA (us := [vB o6.1.f_kind, vB o6.1.f_short, vS o6.1.f_name]) (cs' := [vB o6.1.f_kind, vB o6.1.f_short, vS o6.1.f_name]) .z siz_73 rfl (by intro u hu; simp only [List.mem_cons, List.not_mem_nil, or_false] at hu; rcases hu with rfl | rfl | rfl <;> first | rfl | assumption) rfl (by simp) (.t .z) (.t (.s (.s .z)))) ?_
    refine lRd (dAssign (.t (.s .z))) rfl rfl ?_
    refine lKeep (.k (.k (.d (.d (.d (.d (.d (.d (.d (.d (.k (.k (.k .n))))))))))))) ?_
    refine lNil ?_
    refine xCode ?_
    refine cSeq ?_
    refine cRegion ?_
    refine lRd (dFld fld_73_0 (by decide) (.t (.s .z)) rfl) rfl rfl ?_
    refine lRd (dLoad .z agg_5 (.t .z) rfl) rfl rfl ?_
    refine lRd (dBuild (cs := [vB o6.1.f_kind, vB 0, .slice none 0 0, .int .i64 0, .slice none 0 0]) zer_58 rfl plc_58 (.c (.t .z) .n) rfl) rfl rfl ?_
    refine lCh (cAlloc (cs := [vB 0, vB 0, .slice none 0 0, .int .i64 0, .slice none 0 0]) zer_58 rfl) rfl rfl fun b10 => ?_
    refine lChU (uStoreA (us := [vB o6.1.f_kind, vB 0, .slice none 0 0, .int .i64 0, .slice none 0 0]) (cs' := [vB o6.1.f_kind, vB 0, .slice none 0 0, .int .i64 0, .slice none 0 0]) .z siz_58 rfl (by intro u hu; simp only [List.mem_cons, List.not_mem_nil, or_false] at hu; rcases hu with rfl | rfl | rfl | rfl | rfl <;> first | rfl | assumption) rfl (by simp) (.t .z) (.t (.s .z))) ?_
    refine lKeep (.k (.d (.d (.d (.k (.k (.k (.k (.k .n))))))))) ?_
    refine lNil ?_
    refine xCode ?_
    refine cSeq ?_
    refine cBlock ?_
    refine cSeq ?_
    refine cRegion ?_
    refine lRd (dMove (.t (.s .z))) rfl rfl ?_
    refine lRd (dNot (.t .z)) rfl rfl ?_
    refine lRd (dAssign (.t .z)) rfl rfl ?_
    refine lKeep (.k (.d (.d (.k (.d (.k (.k (.k (.k .n))))))))) ?_
    refine lNil ?_
    refine xCode ?_
    refine cCondB (.t .z) (fun h11 => ?_) (fun h11 => ?_)
    · refine cSeq ?_
      refine cRegion ?_
      refine lRd (dBuild (cs := [vB 0, vB 0, .slice none 0 0, .int .i64 0, .slice none 0 0]) zer_58 rfl plc_58 .n rfl) rfl rfl ?_
      refine lChU (uStoreA (us := [vB 0, vB 0, .slice none 0 0, .int .i64 0, .slice none 0 0]) (cs' := [vB 0, vB 0, .slice none 0 0, .int .i64 0, .slice none 0 0]) (.s (.s .z)) siz_58 rfl (by intro u hu; simp only [List.mem_cons, List.not_mem_nil, or_false] at hu; rcases hu with rfl | rfl | rfl | rfl | rfl <;> first | rfl | assumption) rfl (by simp) (.t (.s (.s (.s (.s (.s .z)))))) (.t .z)) ?_
      refine lRdK (dAssign (.c rfl)) (.k (.k (.k (.k (.d (Keep.refl _)))))) rfl rfl ?_
      refine lKeep (.k (.d (.d (.k (.d (.k .n)))))) ?_
      refine lNil ?_
      refine xCode ?_
      refine cRet ?_
      refine rLeave hD ?_
      refine lvSt (roNil k_api_Order) ?_
      refine lvSt (roNil k_command_Field) ?_
      exact lvRet (rs := [.cell 2 58, .tmp 3]) rfl (.a (.s (.s .z)) (.s (.s (.s (.s .z)))) agg_58 siz_58 (.t .z .n)) (.slice none 0 0, .slice none 0 0) rfl (.c (.s .z) (.c .z .nil))
    · refine cSeq ?_
      refine cJoin (S := Bool) (X := Unit) (fun (s : Bool) (x : Unit) => [(25, .bool s), (6, .pointer (some ⟨b10, 0, none⟩)), (4, .pointer (some ⟨b9, 0, none⟩)), (3, .int .i64 0), (2, .pointer (some ⟨b1, 0, none⟩)), (0, v0_0)]) (fun (s : Bool) (x : Unit) => [.blk b10 [vB o6.1.f_kind, vB 0, .slice none 0 0, .int .i64 0, .slice none 0 0] 58, .blk b9 [vB o6.1.f_kind, vB o6.1.f_short, vS o6.1.f_name] 73, .blk b1 [vB 0, vB 0, .slice none 0 0, .int .i64 0, .slice none 0 0] 58, .ro (kSl kB) [v0_0] a0]) ?_ (fun s16 x17 => ?_)
      · refine cRegion ?_
        refine lRd (dFld fld_73_0 (by decide) (.t (.s (.s .z))) rfl) rfl rfl ?_
        refine lRd (dLoad (.s .z) agg_5 (.t .z) rfl) rfl rfl ?_
        refine lCall fok_29 (.c (.t .z) .n) (command_writes_c o6.1.f_kind) .n rfl rfl fun o12 x13 h14 => ?_
        refine lRd (dMove (.t .z)) rfl rfl ?_
        refine lCase (fun h15 => ?_) (fun h15 => ?_)
        · refine lRdG rfl .z h15 (dMove (.t (.s (.s (.s (.s (.s (.s (.s (.s (.s .z))))))))))) rfl rfl ?_
          refine lRdG rfl (.s .z) h15 (dLen (at_ := #[34]) (slRo (.s (.s (.s .z)))) rfl und_34 (.t .z)) rfl rfl ?_
          refine lRdG rfl (.s (.s .z)) h15 (dLt (.t .z) (.c rfl)) rfl rfl ?_
          refine lRd (dPickT (.t (.s (.s (.s .z)))) h15 (.t .z)) rfl rfl ?_
          refine lRd (dAssign (.t .z)) rfl rfl ?_
          refine lKeep (.k (.d (.d (.d (.d (.d (.d (.d (.d (.d (.k (.k (.k (.k (.k .n))))))))))))))) ?_
          refine lNil ?_
          exact xJoin (decide ((a0.length : Int) < 2)) () (.c .z (.c (.s .z) (.c (.s (.s .z)) (.c (.s (.s (.s .z))) (.c (.s (.s (.s (.s .z)))) (.c (.s (.s (.s (.s (.s .z))))) .n)))))) (.c .z (.c .z (.c .z (.c .z .nil))))
        · refine lPass rfl .z (nbT (Bool.eq_false_iff.mpr h15)) rfl ?_
          refine lPass rfl .z (nbT (Bool.eq_false_iff.mpr h15)) rfl ?_
          refine lPass rfl .z (nbT (Bool.eq_false_iff.mpr h15)) rfl ?_
          refine lRd (dPickF (.t .z) (Bool.eq_false_iff.mpr h15) (.c rfl)) rfl rfl ?_
          refine lRd (dAssign (.t .z)) rfl rfl ?_
          refine lKeep (.k (.d (.d (.d (.d (.d (.d (.k (.k (.k (.k (.k .n)))))))))))) ?_
          refine lNil ?_
          exact xJoin false () (.c .z (.c (.s .z) (.c (.s (.s .z)) (.c (.s (.s (.s .z))) (.c (.s (.s (.s (.s .z)))) (.c (.s (.s (.s (.s (.s .z))))) .n)))))) (.c .z (.c .z (.c .z (.c .z .nil))))
      · refine xCode ?_
        refine cCondB (.t .z) (fun h18 => ?_) (fun h18 => ?_)
        · refine cSeq ?_
          refine cRegion ?_
          refine lRd (dBuild (cs := [vB 0, vB 0, .slice none 0 0, .int .i64 0, .slice none 0 0]) zer_58 rfl plc_58 .n rfl) rfl rfl ?_
          refine lChU (uStoreA (us := [vB 0, vB 0, .slice none 0 0, .int .i64 0, .slice none 0 0]) (cs' := [vB 0, vB 0, .slice none 0 0, .int .i64 0, .slice none 0 0]) (.s (.s .z)) siz_58 rfl (by intro u hu; simp only [List.mem_cons, List.not_mem_nil, or_false] at hu; rcases hu with rfl | rfl | rfl | rfl | rfl <;> first | rfl | assumption) rfl (by simp) (.t (.s (.s (.s (.s (.s .z)))))) (.t .z)) ?_
          refine lRdK (dAssign (.c rfl)) (.k (.k (.k (.k (.d (Keep.refl _)))))) rfl rfl ?_
          refine lKeep (.k (.d (.d (.k (.d (.k .n)))))) ?_
          refine lNil ?_
          refine xCode ?_
          refine cRet ?_
          refine rLeave hD ?_
          refine lvSt (roNil k_api_Order) ?_
          refine lvSt (roNil k_command_Field) ?_
          exact lvRet (rs := [.cell 2 58, .tmp 3]) rfl (.a (.s (.s .z)) (.s (.s (.s (.s .z)))) agg_58 siz_58 (.t .z .n)) (.slice none 0 0, .slice none 0 0) rfl (.c (.s .z) (.c .z .nil))
        · refine cSeq ?_
          refine cRegion ?_
          refine lRd (dFld fld_73_0 (by decide) (.t (.s (.s .z))) rfl) rfl rfl ?_
          refine lRd (dLoad (.s .z) agg_5 (.t .z) rfl) rfl rfl ?_
          refine lCall fok_29 (.c (.t .z) .n) (command_writes_c o6.1.f_kind) .n rfl rfl fun o19 x20 h21 => ?_
          refine lRd (dAssign (.t .z)) rfl rfl ?_
          refine lKeep (.k (.d (.d (.d (.d (.k (.k (.k (.k (.k .n)))))))))) ?_
          refine lNil ?_
          refine xCode ?_
          refine cJoin (S := UInt8 × (List api_Order) × Int × (List command_Field)) (X := Value × Value) (fun (s : UInt8 × (List api_Order) × Int × (List command_Field)) (x : Value × Value) => [(6, .pointer (some ⟨b10, 0, none⟩)), (3, .int .i64 0), (2, .pointer (some ⟨b1, 0, none⟩))]) (fun (s : UInt8 × (List api_Order) × Int × (List command_Field)) (x : Value × Value) => [.ro (kSl k_api_Order) [x.1] s.2.1, .blk b10 [vB o6.1.f_kind, vB s.1, x.1, .int .i64 s.2.2.1, x.2] 58, .blk b9 [vB o6.1.f_kind, vB o6.1.f_short, vS o6.1.f_name] 73, .blk b1 [vB 0, vB 0, .slice none 0 0, .int .i64 0, .slice none 0 0] 58, .ro (kSl kB) [v0_0] a0, .ro (kSl k_command_Field) [x.2] s.2.2.2]) ?_ (fun s39 x40 => ?_)
          · refine cCondB (.t .z) (fun h22 => ?_) (fun h22 => ?_)
            · refine cSeq ?_
              refine cRegion ?_
              refine lRd (dMove (.t (.s (.s (.s (.s (.s .z))))))) rfl rfl ?_
              refine lIx fun y23 h24 h25 => ?_
              refine lRd (dIxAddr (slRo (.s (.s (.s .z)))) und_34 siz_5 (.t .z) (.c rfl) h24 h25) rfl rfl ?_
              refine lRd (dLoadE (slRo (.s (.s (.s .z)))) agg_5 (.t .z) h25 (fun _ _ h => by cases h; rfl)) rfl rfl ?_
              refine lRd (dFld fld_58_1 (by decide) (.t (.s (.s (.s (.s .z))))) rfl) rfl rfl ?_
              refine lChU (uStore .z siz_5 rfl (.s .z) (.t .z) (.t (.s .z))) ?_
              refine lKeep (.d (.d (.d (.d (.d (.k (.d (.k (.k (.k .n)))))))))) ?_
              refine lNil ?_
              refine xCode ?_
              refine cRegion ?_
              refine lRd (dMove (.t (.s (.s (.s .z))))) rfl rfl ?_
              refine lBind fun r26 h27 => ?_
              refine lSt (roSub (.s (.s (.s .z))) h27) ?_
              refine lRd (dSlice (ys := r26) (slRo (.s (.s (.s (.s .z))))) und_34 siz_5 (.t .z) ⟨_, (.c rfl)⟩ rfl h27) rfl rfl ?_
              refine lCall fok_30 (.c (.t .z) .n) (order_Parse_c K r26 (slc v0_0 (kB).n (Int.toNat 2) (Int.toNat (a0.length : Int)))) (.r .z .n) rfl rfl fun o28 x29 h30 => ?_
              refine lRd (dMove (.t .z)) rfl rfl ?_
              refine lRd (dExtract (.t .z) rfl) rfl rfl ?_
              refine lRdN (dExtract (.t (.s .z)) rfl) rfl ?_
              refine lRd (dExtract (.t (.s .z)) rfl) rfl rfl ?_
              refine lRd (dFld fld_58_2 (by decide) (.t (.s (.s (.s (.s (.s (.s .z))))))) rfl) rfl rfl ?_
              refine lFact (oneRo .z) fun h31 => ?_
              refine lChU (uStore (.s (.s .z)) siz_55 h31 (.s (.s .z)) (.t .z) (.t (.s (.s .z)))) ?_
              refine lRd (dFld fld_58_3 (by decide) (.t (.s (.s (.s (.s (.s (.s (.s .z)))))))) rfl) rfl rfl ?_
              refine lChU (uStore (.s (.s .z)) siz_35 rfl (.s (.s (.s .z))) (.t .z) (.t (.s (.s .z)))) ?_
              refine lKeep (.d (.d (.d (.d (.d (.d (.d (.d (.k (.k (.k .n))))))))))) ?_
              refine lNil ?_
              refine xSt (roNil k_command_Field) ?_
              exact xJoin (y23, o28.1, o28.2.2, []) (x29, .slice none 0 0) (.c .z (.c (.s .z) (.c (.s (.s .z)) .n))) (.c (.s .z) (.c (.s (.s .z)) (.c (.s (.s .z)) (.c (.s (.s .z)) (.c (.s (.s .z)) (.c .z .nil))))))
            · refine cSeq ?_
              refine cRegion ?_
              refine lRd (dFld fld_73_0 (by decide) (.t (.s (.s .z))) rfl) rfl rfl ?_
              refine lRd (dLoad (.s .z) agg_5 (.t .z) rfl) rfl rfl ?_
              refine lRd (dEqB (.t .z) (.c (v' := vB 243) rfl)) rfl rfl ?_
              refine lRd (dAssign (.t .z)) rfl rfl ?_
              refine lKeep (.k (.d (.d (.d (.d (.k (.d (.k (.k (.k .n)))))))))) ?_
              refine lNil ?_
              refine xCode ?_
              refine cCond (.t .z) (fun h32 => ?_) (fun h32 => ?_)
              · refine cRegion ?_
                refine lRd (dMove (.t (.s (.s (.s (.s .z)))))) rfl rfl ?_
                refine lBind fun r33 h34 => ?_
                refine lSt (roSub (.s (.s (.s .z))) h34) ?_
                refine lRd (dSlice (ys := r33) (slRo (.s (.s (.s (.s .z))))) und_34 siz_5 (.t .z) ⟨_, (.c rfl)⟩ rfl h34) rfl rfl ?_
                refine lCall fok_31 (.c (.t .z) .n) (command_fields_c K R_command_Parse hR_command_Parse r33 (slc v0_0 (kB).n (Int.toNat 1) (Int.toNat (a0.length : Int)))) (.r .z .n) rfl rfl fun o35 x36 h37 => ?_
                refine lRd (dMove (.t .z)) rfl rfl ?_
                refine lRd (dExtract (.t .z) rfl) rfl rfl ?_
                refine lRd (dExtract (.t (.s .z)) rfl) rfl rfl ?_
                refine lRd (dFld fld_58_4 (by decide) (.t (.s (.s (.s (.s (.s (.s (.s .z)))))))) rfl) rfl rfl ?_
                refine lFact (oneRo .z) fun h38 => ?_
                refine lChU (uStore (.s (.s .z)) siz_56 h38 (.s (.s (.s (.s .z)))) (.t .z) (.t (.s (.s .z)))) ?_
                refine lRd (dFld fld_58_3 (by decide) (.t (.s (.s (.s (.s (.s (.s (.s (.s .z))))))))) rfl) rfl rfl ?_
                refine lChU (uStore (.s (.s .z)) siz_35 rfl (.s (.s (.s .z))) (.t .z) (.t (.s (.s .z)))) ?_
                refine lKeep (.d (.d (.d (.d (.d (.d (.d (.d (.d (.k (.k (.k .n)))))))))))) ?_
                refine lNil ?_
                refine xSt (roNil k_api_Order) ?_
                exact xJoin (0, [], o35.2, o35.1) (.slice none 0 0, x36) (.c .z (.c (.s .z) (.c (.s (.s .z)) .n))) (.c .z (.c (.s (.s .z)) (.c (.s (.s .z)) (.c (.s (.s .z)) (.c (.s (.s .z)) (.c .z .nil))))))
              · refine cSkip ?_
                refine xSt (roNil k_api_Order) ?_
                refine xSt (roNil k_command_Field) ?_
                exact xJoin (0, [], 0, []) (.slice none 0 0, .slice none 0 0) (.c (.s .z) (.c (.s (.s .z)) (.c (.s (.s (.s .z))) .n))) (.c (.s .z) (.c (.s .z) (.c (.s .z) (.c (.s .z) (.c (.s .z) (.c .z .nil))))))
          · refine xBlock ?_
            refine xCode ?_
            refine cSeq ?_
            refine cRegion ?_
            refine lRd (dLoadA (us := [vB o6.1.f_kind, vB s39.1, x40.1, .int .i64 s39.2.2.1, x40.2]) (.s .z) agg_58 siz_58 rfl (.t .z) rfl) rfl rfl ?_
            refine lFact (oneRo .z) fun h41 => ?_
            refine lFact (oneRo (.s (.s (.s (.s (.s .z)))))) fun h42 => ?_
            refine lChU (uStoreA (us := [vB o6.1.f_kind, vB s39.1, x40.1, .int .i64 s39.2.2.1, x40.2]) (cs' := [vB o6.1.f_kind, vB s39.1, x40.1, .int .i64 s39.2.2.1, x40.2]) (.s (.s (.s .z))) siz_58 rfl (by intro u hu; simp only [List.mem_cons, List.not_mem_nil, or_false] at hu; rcases hu with rfl | rfl | rfl | rfl | rfl <;> first | rfl | assumption) rfl (by simp) (.t (.s (.s (.s .z)))) (.t .z)) ?_
            refine lRdK (dAssign (.c rfl)) (.k (.k (.d (Keep.refl _)))) rfl rfl ?_
            refine lKeep (.k (.d (.d (.k .n)))) ?_
            refine lNil ?_
            refine xCode ?_
            refine cRet ?_
            refine rLeave hD ?_
            exact lvRet (rs := [.cell 2 58, .tmp 3]) rfl (.a (.s .z) (.s (.s (.s .z))) agg_58 siz_58 (.t .z .n)) (x40.1, x40.2) rfl (.c .z (.c (.s (.s (.s (.s .z)))) .nil))

def grp_command_Parse_mR (K : Nat) : Nat → ((List UInt8) → Option (command_Command × Int))
  | 0 => (fun _ => none)
  | n + 1 => command_Parse_f_m K (grp_command_Parse_mR K n)
theorem grp_command_Parse_cR (K : Nat) : ∀ n, (∀ (a0 : (List UInt8)) (v0_0 : Value), Con Try.prog 19 #[v0_0] [.ro (kSl kB) [v0_0] a0] ((grp_command_Parse_mR K n) a0) (fun (o : command_Command × Int) (x : Value × Value) => .tuple #[.agg #[vB o.1.f_Kind, vB o.1.f_WCC, x.1, .int .i64 o.1.f_Err, x.2], .int .i64 o.2]) (fun (o : command_Command × Int) (x : Value × Value) => [.ro (kSl k_api_Order) [x.1] o.1.f_Orders, .ro (kSl k_command_Field) [x.2] o.1.f_Fields]))
  | 0 => (fun _ _ => by intro out hm; cases hm)
  | n + 1 => command_Parse_f_c K (grp_command_Parse_mR K n) (grp_command_Parse_cR K n)
def command_Parse_m (K : Nat) (a0 : (List UInt8)) : Option (command_Command × Int) := (grp_command_Parse_mR K K) a0
theorem command_Parse_c (K : Nat) (a0 : (List UInt8)) (v0_0 : Value) : Con Try.prog 19 #[v0_0] [.ro (kSl kB) [v0_0] a0] (command_Parse_m K a0) (fun (o : command_Command × Int) (x : Value × Value) => .tuple #[.agg #[vB o.1.f_Kind, vB o.1.f_WCC, x.1, .int .i64 o.1.f_Err, x.2], .int .i64 o.2]) (fun (o : command_Command × Int) (x : Value × Value) => [.ro (kSl k_api_Order) [x.1] o.1.f_Orders, .ro (kSl k_command_Field) [x.2] o.1.f_Fields]) := (grp_command_Parse_cR K K) a0 v0_0

-- greenscreen/command.Clean
def command_Clean_m (a0 : UInt8) : Option (Bool) := some (decide ((a0 &&& (1 : UInt8)) ≠ (0 : UInt8)))
theorem command_Clean_c (a0 : UInt8) : Con Try.prog 32 #[vB a0] [] (command_Clean_m a0) (fun (o : Bool) (x : Unit) => .bool o) (fun (o : Bool) (x : Unit) => []) := by
  unfold command_Clean_m
  refine con (args := [vB a0]) Try.func32 rfl 6 rfl (.c .n) rfl fun c hD hrn => ?_
  refine cSeq ?_
  refine cRegion ?_
  refine lRd (dAssign (.c rfl)) rfl rfl ?_
  refine lNil ?_
  refine xCode ?_
  refine cSeq ?_
  refine cRegion ?_
  refine lRd (dMove (.t (.s .z))) rfl rfl ?_
  refine lRd (dAndB (.t .z) (.c (v' := vB 1) rfl)) rfl rfl ?_
  refine lRd (dNeB (.t .z) (.c (v' := vB 0) rfl)) rfl rfl ?_
  refine lRdK (dAssign (.t .z)) (.k (.k (.k (.d (Keep.refl _))))) rfl rfl ?_
  refine lKeep (.k .n) ?_
  refine lNil ?_
  refine xCode ?_
  refine cRet ?_
  refine rLeave hD ?_
  exact lvRet (rs := [.tmp 2]) rfl (.t .z .n) () rfl .nil

-- (*greenscreen/plane.Plane).Len
def plane_Plane_Len_m (a0 : plane_Plane) : Option (Int) := some (a0.f_cells.length : Int)
theorem plane_Plane_Len_c (a0 : plane_Plane) (b0_0 : Nat) (v0_1 : Value) : Con Try.prog 12 #[.pointer (some ⟨b0_0, 0, none⟩)] [.blk b0_0 [.int .i64 a0.f_size.f_Rows, .int .i64 a0.f_size.f_Cols, v0_1, .int .i64 a0.f_cursor] 66, .own v0_1 44 k_api_Cell a0.f_cells] (plane_Plane_Len_m a0) (fun (o : Int) (x : Unit) => .int .i64 o) (fun (o : Int) (x : Unit) => [.blk b0_0 [.int .i64 a0.f_size.f_Rows, .int .i64 a0.f_size.f_Cols, v0_1, .int .i64 a0.f_cursor] 66, .own v0_1 44 k_api_Cell a0.f_cells]) := by
  unfold plane_Plane_Len_m
  refine con (args := [.pointer (some ⟨b0_0, 0, none⟩)]) Try.func12 rfl 8 rfl (.c .n) rfl fun c hD hrn => ?_
  refine cSeq ?_
  refine cRegion ?_
  refine lRd (dAssign (.c rfl)) rfl rfl ?_
  refine lNil ?_
  refine xCode ?_
  refine cSeq ?_
  refine cRegion ?_
  refine lRd (dMove (.t (.s .z))) rfl rfl ?_
  refine lRd (dNil (.t .z)) rfl rfl ?_
  refine lRd (dFld fld_66_1 (by decide) (.t .z) rfl) rfl rfl ?_
  refine lRd (dLoad .z agg_27 (.t .z) rfl) rfl rfl ?_
  refine lRd (dLen (at_ := #[27]) (slOwn (.s .z)) rfl und_27 (.t .z)) rfl rfl ?_
  refine lRdK (dAssign (.t .z)) (.k (.k (.k (.k (.k (.d (Keep.refl _))))))) rfl rfl ?_
  refine lKeep (.k .n) ?_
  refine lNil ?_
  refine xCode ?_
  refine cRet ?_
  refine rLeave hD ?_
  exact lvRet (rs := [.tmp 2]) rfl (.t .z .n) () rfl (.c .z (.c .z .nil))

-- (*greenscreen/plane.Plane).has
def plane_Plane_has_m (a0 : plane_Plane) (a1 : Int) : Option (Bool) := (if a1 ≥ 0 then some (decide (a1 < (a0.f_cells.length : Int))) else some false)
theorem plane_Plane_has_c (a0 : plane_Plane) (a1 : Int) (b0_0 : Nat) (v0_1 : Value) : Con Try.prog 21 #[.pointer (some ⟨b0_0, 0, none⟩), .int .i64 a1] [.blk b0_0 [.int .i64 a0.f_size.f_Rows, .int .i64 a0.f_size.f_Cols, v0_1, .int .i64 a0.f_cursor] 66, .own v0_1 44 k_api_Cell a0.f_cells] (plane_Plane_has_m a0 a1) (fun (o : Bool) (x : Unit) => .bool o) (fun (o : Bool) (x : Unit) => [.blk b0_0 [.int .i64 a0.f_size.f_Rows, .int .i64 a0.f_size.f_Cols, v0_1, .int .i64 a0.f_cursor] 66, .own v0_1 44 k_api_Cell a0.f_cells]) := by
  unfold plane_Plane_has_m
  refine con (args := [.pointer (some ⟨b0_0, 0, none⟩), .int .i64 a1]) Try.func21 rfl 16 rfl (.c (.c .n)) rfl fun c hD hrn => ?_
  refine cSeq ?_
  refine cRegion ?_
  refine lRd (dAssign (.c rfl)) rfl rfl ?_
  refine lNil ?_
  refine xCode ?_
  refine cSeq ?_
  refine cRegion ?_
  refine lRd (dMove (.t (.s (.s .z)))) rfl rfl ?_
  refine lRd (dGe (.t .z) (.c rfl)) rfl rfl ?_
  refine lRd (dMove (.t .z)) rfl rfl ?_
  refine lCase (fun h1 => ?_) (fun h1 => ?_)
  · refine lRdG rfl .z (decide_eq_true h1) (dMove (.t (.s (.s (.s (.s (.s .z))))))) rfl rfl ?_
    refine lRdG rfl (.s .z) (decide_eq_true h1) (dMove (.t (.s (.s (.s (.s (.s .z))))))) rfl rfl ?_
    refine lRdG rfl (.s (.s .z)) (decide_eq_true h1) (dNil (.t .z)) rfl rfl ?_
    refine lRdG rfl (.s (.s (.s .z))) (decide_eq_true h1) (dFld fld_66_1 (by decide) (.t .z) rfl) rfl rfl ?_
    refine lRdG rfl (.s (.s (.s (.s .z)))) (decide_eq_true h1) (dLoad .z agg_27 (.t .z) rfl) rfl rfl ?_
    refine lRdG rfl (.s (.s (.s (.s (.s .z))))) (decide_eq_true h1) (dLen (at_ := #[27]) (slOwn (.s .z)) rfl und_27 (.t .z)) rfl rfl ?_
    refine lRdG rfl (.s (.s (.s (.s (.s (.s .z)))))) (decide_eq_true h1) (dLt (.t (.s (.s (.s (.s (.s .z)))))) (.t .z)) rfl rfl ?_
    refine lRd (dPickT (.t (.s (.s (.s (.s (.s (.s (.s .z)))))))) (decide_eq_true h1) (.t .z)) rfl rfl ?_
    refine lRdK (dAssign (.t .z)) (.k (.k (.k (.k (.k (.k (.k (.k (.k (.k (.k (.d (Keep.refl _))))))))))))) rfl rfl ?_
    refine lKeep (.k .n) ?_
    refine lNil ?_
    refine xCode ?_
    refine cRet ?_
    refine rLeave hD ?_
    exact lvRet (rs := [.tmp 4]) rfl (.t .z .n) () rfl (.c .z (.c .z .nil))
  · refine lPass rfl .z (nbT (decide_eq_false h1)) rfl ?_
    refine lPass rfl .z (nbT (decide_eq_false h1)) rfl ?_
    refine lPass rfl .z (nbT (decide_eq_false h1)) rfl ?_
    refine lPass rfl .z (nbT (decide_eq_false h1)) rfl ?_
    refine lPass rfl .z (nbT (decide_eq_false h1)) rfl ?_
    refine lPass rfl .z (nbT (decide_eq_false h1)) rfl ?_
    refine lPass rfl .z (nbT (decide_eq_false h1)) rfl ?_
    refine lRd (dPickF (.t .z) (decide_eq_false h1) (.c rfl)) rfl rfl ?_
    refine lRdK (dAssign (.t .z)) (.k (.k (.k (.k (.d (Keep.refl _)))))) rfl rfl ?_
    refine lKeep (.k .n) ?_
    refine lNil ?_
    refine xCode ?_
    refine cRet ?_
    refine rLeave hD ?_
    exact lvRet (rs := [.tmp 4]) rfl (.t .z .n) () rfl (.c .z (.c .z .nil))

-- (*greenscreen/plane.Plane).At
def plane_Plane_At_m (a0 : plane_Plane) (a1 : Int) : Option (api_Cell) := (plane_Plane_has_m a0 a1).bind fun o2 => (if (!o2) = true then some (⟨0, false, false, 0, 0⟩ : api_Cell) else (ix a0.f_cells a1).bind fun y6 => some y6)
theorem plane_Plane_At_c (a0 : plane_Plane) (a1 : Int) (b0_0 : Nat) (v0_1 : Value) : Con Try.prog 13 #[.pointer (some ⟨b0_0, 0, none⟩), .int .i64 a1] [.blk b0_0 [.int .i64 a0.f_size.f_Rows, .int .i64 a0.f_size.f_Cols, v0_1, .int .i64 a0.f_cursor] 66, .own v0_1 44 k_api_Cell a0.f_cells] (plane_Plane_At_m a0 a1) (fun (o : api_Cell) (x : Unit) => .agg #[vB o.f_Byte, .bool o.f_GE, .bool o.f_Start, vB o.f_Light, vB o.f_Color]) (fun (o : api_Cell) (x : Unit) => [.blk b0_0 [.int .i64 a0.f_size.f_Rows, .int .i64 a0.f_size.f_Cols, v0_1, .int .i64 a0.f_cursor] 66, .own v0_1 44 k_api_Cell a0.f_cells]) := by
  unfold plane_Plane_At_m
  refine con (args := [.pointer (some ⟨b0_0, 0, none⟩), .int .i64 a1]) Try.func13 rfl 17 rfl (.c (.c .n)) rfl fun c hD hrn => ?_
  refine cSeq ?_
  refine cRegion ?_
  refine lCh (cAlloc (cs := [vB 0, .bool false, .bool false, vB 0, vB 0]) zer_44 rfl) rfl rfl fun b1 => ?_
  refine lNil ?_
  refine xCode ?_
  refine cSeq ?_
  refine cSeq ?_
  refine cRegion ?_
  refine lRd (dMove (.t (.s .z))) rfl rfl ?_
  refine lRd (dMove (.t (.s (.s (.s .z))))) rfl rfl ?_
  refine lCall fok_21 (.c (.t (.s .z)) (.c (.t .z) .n)) (plane_Plane_has_c a0 a1 b0_0 v0_1) (.c (.s .z) (.c (.s .z) .n)) rfl rfl fun o2 x3 h4 => ?_
  refine lRd (dNot (.t .z)) rfl rfl ?_
  refine lKeep (.k (.d (.d (.d (.k (.k (.k .n))))))) ?_
  refine lNil ?_
  refine xCode ?_
  refine cCondB (.t .z) (fun h5 => ?_) (fun h5 => ?_)
  · refine cSeq ?_
    refine cRegion ?_
    refine lRd (dBuild (cs := [vB 0, .bool false, .bool false, vB 0, vB 0]) zer_44 rfl plc_44 .n rfl) rfl rfl ?_
    refine lChU (uStoreA (us := [vB 0, .bool false, .bool false, vB 0, vB 0]) (cs' := [vB 0, .bool false, .bool false, vB 0, vB 0]) (.s (.s .z)) siz_44 rfl (by intro u hu; simp only [List.mem_cons, List.not_mem_nil, or_false] at hu; rcases hu with rfl | rfl | rfl | rfl | rfl <;> first | rfl | assumption) rfl (by simp) (.t (.s (.s .z))) (.t .z)) ?_
    refine lKeep (.d (.d (.k (.k (.k .n))))) ?_
    refine lNil ?_
    refine xCode ?_
    refine cRet ?_
    refine rLeave hD ?_
    exact lvRet (rs := [.cell 4 44]) rfl (.a .z (.s (.s .z)) agg_44 siz_44 .n) () rfl (.c .z (.c .z .nil))
  · refine cSkip ?_
    refine xCode ?_
    refine cSeq ?_
    refine cRegion ?_
    refine lRd (dMove (.t (.s (.s .z)))) rfl rfl ?_
    refine lRd (dNil (.t .z)) rfl rfl ?_
    refine lRd (dFld fld_66_1 (by decide) (.t .z) rfl) rfl rfl ?_
    refine lRd (dLoad .z agg_27 (.t .z) rfl) rfl rfl ?_
    refine lRd (dMove (.t (.s (.s (.s (.s (.s (.s (.s .z))))))))) rfl rfl ?_
    refine lIx fun y6 h7 h8 => ?_
    refine lRd (dIxAddr (slOwn (.s .z)) und_27 siz_44 (.t (.s .z)) (.t .z) h7 h8) rfl rfl ?_
    refine lRd (dLoadEA (us := [vB y6.f_Byte, .bool y6.f_GE, .bool y6.f_Start, vB y6.f_Light, vB y6.f_Color]) (slOwn (.s .z)) agg_44 siz_44 rfl (.t .z) h8 (fun _ _ h => by cases h; rfl)) rfl rfl ?_
    refine lChU (uStoreA (us := [vB y6.f_Byte, .bool y6.f_GE, .bool y6.f_Start, vB y6.f_Light, vB y6.f_Color]) (cs' := [vB y6.f_Byte, .bool y6.f_GE, .bool y6.f_Start, vB y6.f_Light, vB y6.f_Color]) (.s (.s .z)) siz_44 rfl (by intro u hu; simp only [List.mem_cons, List.not_mem_nil, or_false] at hu; rcases hu with rfl | rfl | rfl | rfl | rfl <;> first | rfl | assumption) rfl (by simp) (.t (.s (.s (.s (.s (.s (.s (.s (.s .z))))))))) (.t .z)) ?_
    refine lKeep (.d (.d (.d (.d (.d (.d (.d (.d (.k .n))))))))) ?_
    refine lNil ?_
    refine xCode ?_
    refine cRet ?_
    refine rLeave hD ?_
    exact lvRet (rs := [.cell 4 44]) rfl (.a .z (.s (.s .z)) agg_44 siz_44 .n) () rfl (.c .z (.c .z .nil))

-- (*greenscreen/plane.Plane).Size
def plane_Plane_Size_m (a0 : plane_Plane) : Option (api_Size) := some a0.f_size
theorem plane_Plane_Size_c (a0 : plane_Plane) (b0_0 : Nat) (v0_1 : Value) : Con Try.prog 10 #[.pointer (some ⟨b0_0, 0, none⟩)] [.blk b0_0 [.int .i64 a0.f_size.f_Rows, .int .i64 a0.f_size.f_Cols, v0_1, .int .i64 a0.f_cursor] 66, .own v0_1 44 k_api_Cell a0.f_cells] (plane_Plane_Size_m a0) (fun (o : api_Size) (x : Unit) => .agg #[.int .i64 o.f_Rows, .int .i64 o.f_Cols]) (fun (o : api_Size) (x : Unit) => [.blk b0_0 [.int .i64 a0.f_size.f_Rows, .int .i64 a0.f_size.f_Cols, v0_1, .int .i64 a0.f_cursor] 66, .own v0_1 44 k_api_Cell a0.f_cells]) := by
  unfold plane_Plane_Size_m
  refine con (args := [.pointer (some ⟨b0_0, 0, none⟩)]) Try.func10 rfl 7 rfl (.c .n) rfl fun c hD hrn => ?_
  refine cSeq ?_
  refine cRegion ?_
  refine lCh (cAlloc (cs := [.int .i64 0, .int .i64 0]) zer_23 rfl) rfl rfl fun b1 => ?_
  refine lNil ?_
  refine xCode ?_
  refine cSeq ?_
  refine cRegion ?_
  refine lRd (dMove (.t (.s .z))) rfl rfl ?_
  refine lRd (dNil (.t .z)) rfl rfl ?_
  refine lRd (dFld fld_66_0 (by decide) (.t .z) rfl) rfl rfl ?_
  refine lRd (dLoadA (us := [.int .i64 a0.f_size.f_Rows, .int .i64 a0.f_size.f_Cols]) (.s .z) agg_23 siz_23 rfl (.t .z) rfl) rfl rfl ?_
  refine lChU (uStoreA (us := [.int .i64 a0.f_size.f_Rows, .int .i64 a0.f_size.f_Cols]) (cs' := [.int .i64 a0.f_size.f_Rows, .int .i64 a0.f_size.f_Cols]) .z siz_23 rfl (by intro u hu; simp only [List.mem_cons, List.not_mem_nil, or_false] at hu; rcases hu with rfl | rfl <;> first | rfl | assumption) rfl (by simp) (.t (.s (.s (.s (.s .z))))) (.t .z)) ?_
  refine lKeep (.d (.d (.d (.d (.k .n))))) ?_
  refine lNil ?_
  refine xCode ?_
  refine cRet ?_
  refine rLeave hD ?_
  exact lvRet (rs := [.cell 2 23]) rfl (.a .z .z agg_23 siz_23 .n) () rfl (.c (.s .z) (.c (.s .z) .nil))

-- greenscreen/addr.Cells
def addr_Cells_m (a0 : api_Size) : Option (Int) := ((if a0.f_Rows < 1 then some true else (if a0.f_Rows > 43 then some true else (if a0.f_Cols < 1 then some true else (if a0.f_Cols > 132 then some true else some (decide ((w64 (a0.f_Rows * a0.f_Cols)) > 4096))))))).bind fun (s6 : Bool) => (if s6 = true then some 0 else some (w64 (a0.f_Rows * a0.f_Cols)))
theorem addr_Cells_c (a0 : api_Size) : Con Try.prog 24 #[.agg #[.int .i64 a0.f_Rows, .int .i64 a0.f_Cols]] [] (addr_Cells_m a0) (fun (o : Int) (x : Unit) => .int .i64 o) (fun (o : Int) (x : Unit) => []) := by
  unfold addr_Cells_m
  refine con (args := [.agg #[.int .i64 a0.f_Rows, .int .i64 a0.f_Cols]]) Try.func24 rfl 32 rfl (.c .n) rfl fun c hD hrn => ?_
  refine cSeq ?_
  refine cRegion ?_
  refine lCh (cBox (cs := [.int .i64 a0.f_Rows, .int .i64 a0.f_Cols]) (.t .z) rfl) rfl rfl fun b1 => ?_
  refine lRd (dAssign (.c rfl)) rfl rfl ?_
  refine lKeep (.k (.k .n)) ?_
  refine lNil ?_
  refine xCode ?_
  refine cSeq ?_
  refine cRegion ?_
  refine lRd (dFld fld_23_0 (by decide) (.t (.s .z)) rfl) rfl rfl ?_
  refine lRd (dLoad .z agg_3 (.t .z) rfl) rfl rfl ?_
  refine lRd (dFld fld_23_1 (by decide) (.t (.s (.s (.s .z)))) rfl) rfl rfl ?_
  refine lRd (dLoad .z agg_3 (.t .z) rfl) rfl rfl ?_
  refine lRd (dMulI (.t (.s (.s .z))) (.t .z)) rfl rfl ?_
  refine lRd (dAssign (.t .z)) rfl rfl ?_
  refine lKeep (.k (.d (.d (.d (.d (.d (.k (.k .n)))))))) ?_
  refine lNil ?_
  refine xCode ?_
  refine cSeq ?_
  refine cSeq ?_
  refine cJoin (S := Bool) (X := Unit) (fun (s : Bool) (x : Unit) => [(30, .bool s), (3, .int .i64 (w64 (a0.f_Rows * a0.f_Cols))), (2, .int .i64 0)]) (fun (s : Bool) (x : Unit) => [.blk b1 [.int .i64 a0.f_Rows, .int .i64 a0.f_Cols] 23]) ?_ (fun s6 x7 => ?_)
  · refine cRegion ?_
    refine lRd (dFld fld_23_0 (by decide) (.t (.s (.s .z))) rfl) rfl rfl ?_
    refine lRd (dLoad .z agg_3 (.t .z) rfl) rfl rfl ?_
    refine lRd (dLt (.t .z) (.c rfl)) rfl rfl ?_
    refine lRd (dMove (.t .z)) rfl rfl ?_
    refine lCase (fun h2 => ?_) (fun h2 => ?_)
    · refine lPass rfl .z (nbF (decide_eq_true h2)) rfl ?_
      refine lPass rfl .z (nbF (decide_eq_true h2)) rfl ?_
      refine lPass rfl .z (nbF (decide_eq_true h2)) rfl ?_
      refine lRd (dPickT (.t .z) (decide_eq_true h2) (.c rfl)) rfl rfl ?_
      refine lRd (dMove (.t .z)) rfl rfl ?_
      refine lPass rfl .z (nbF rfl) rfl ?_
      refine lPass rfl .z (nbF rfl) rfl ?_
      refine lPass rfl .z (nbF rfl) rfl ?_
      refine lRd (dPickT (.t .z) rfl (.c rfl)) rfl rfl ?_
      refine lRd (dMove (.t .z)) rfl rfl ?_
      refine lPass rfl .z (nbF rfl) rfl ?_
      refine lPass rfl .z (nbF rfl) rfl ?_
      refine lPass rfl .z (nbF rfl) rfl ?_
      refine lRd (dPickT (.t .z) rfl (.c rfl)) rfl rfl ?_
      refine lRd (dMove (.t .z)) rfl rfl ?_
      refine lPass rfl .z (nbF rfl) rfl ?_
      refine lPass rfl .z (nbF rfl) rfl ?_
      refine lRd (dPickT (.t .z) rfl (.c rfl)) rfl rfl ?_
      refine lKeep (.k (.d (.d (.d (.d (.d (.d (.d (.d (.d (.d (.k (.k .n))))))))))))) ?_
      refine lNil ?_
      exact xJoin true () (.c .z (.c (.s .z) (.c (.s (.s .z)) .n))) (.c .z .nil)
    · refine lRdG rfl .z (decide_eq_false h2) (dFld fld_23_0 (by decide) (.t (.s (.s (.s (.s (.s (.s .z))))))) rfl) rfl rfl ?_
      refine lRdG rfl (.s .z) (decide_eq_false h2) (dLoad .z agg_3 (.t .z) rfl) rfl rfl ?_
      refine lRdG rfl (.s (.s .z)) (decide_eq_false h2) (dGt (.t .z) (.c rfl)) rfl rfl ?_
      refine lRd (dPickF (.t (.s (.s (.s .z)))) (decide_eq_false h2) (.t .z)) rfl rfl ?_
      refine lRd (dMove (.t .z)) rfl rfl ?_
      refine lCase (fun h3 => ?_) (fun h3 => ?_)
      · refine lPass rfl .z (nbF (decide_eq_true h3)) rfl ?_
        refine lPass rfl .z (nbF (decide_eq_true h3)) rfl ?_
        refine lPass rfl .z (nbF (decide_eq_true h3)) rfl ?_
        refine lRd (dPickT (.t .z) (decide_eq_true h3) (.c rfl)) rfl rfl ?_
        refine lRd (dMove (.t .z)) rfl rfl ?_
        refine lPass rfl .z (nbF rfl) rfl ?_
        refine lPass rfl .z (nbF rfl) rfl ?_
        refine lPass rfl .z (nbF rfl) rfl ?_
        refine lRd (dPickT (.t .z) rfl (.c rfl)) rfl rfl ?_
        refine lRd (dMove (.t .z)) rfl rfl ?_
        refine lPass rfl .z (nbF rfl) rfl ?_
        refine lPass rfl .z (nbF rfl) rfl ?_
        refine lRd (dPickT (.t .z) rfl (.c rfl)) rfl rfl ?_
        refine lKeep (.k (.d (.d (.d (.d (.d (.d (.d (.d (.d (.d (.d (.d (.d (.k (.k .n)))))))))))))))) ?_
        refine lNil ?_
        exact xJoin true () (.c .z (.c (.s .z) (.c (.s (.s .z)) .n))) (.c .z .nil)
      · refine lRdG rfl .z (decide_eq_false h3) (dFld fld_23_1 (by decide) (.t (.s (.s (.s (.s (.s (.s (.s (.s (.s (.s (.s .z)))))))))))) rfl) rfl rfl ?_
        refine lRdG rfl (.s .z) (decide_eq_false h3) (dLoad .z agg_3 (.t .z) rfl) rfl rfl ?_
        refine lRdG rfl (.s (.s .z)) (decide_eq_false h3) (dLt (.t .z) (.c rfl)) rfl rfl ?_
        refine lRd (dPickF (.t (.s (.s (.s .z)))) (decide_eq_false h3) (.t .z)) rfl rfl ?_
        refine lRd (dMove (.t .z)) rfl rfl ?_
        refine lCase (fun h4 => ?_) (fun h4 => ?_)
        · refine lPass rfl .z (nbF (decide_eq_true h4)) rfl ?_
          refine lPass rfl .z (nbF (decide_eq_true h4)) rfl ?_
          refine lPass rfl .z (nbF (decide_eq_true h4)) rfl ?_
          refine lRd (dPickT (.t .z) (decide_eq_true h4) (.c rfl)) rfl rfl ?_
          refine lRd (dMove (.t .z)) rfl rfl ?_
          refine lPass rfl .z (nbF rfl) rfl ?_
          refine lPass rfl .z (nbF rfl) rfl ?_
          refine lRd (dPickT (.t .z) rfl (.c rfl)) rfl rfl ?_
          refine lKeep (.k (.d (.d (.d (.d (.d (.d (.d (.d (.d (.d (.d (.d (.d (.d (.d (.d (.k (.k .n))))))))))))))))))) ?_
          refine lNil ?_
          exact xJoin true () (.c .z (.c (.s .z) (.c (.s (.s .z)) .n))) (.c .z .nil)
        · refine lRdG rfl .z (decide_eq_false h4) (dFld fld_23_1 (by decide) (.t (.s (.s (.s (.s (.s (.s (.s (.s (.s (.s (.s (.s (.s (.s (.s (.s .z))))))))))))))))) rfl) rfl rfl ?_
          refine lRdG rfl (.s .z) (decide_eq_false h4) (dLoad .z agg_3 (.t .z) rfl) rfl rfl ?_
          refine lRdG rfl (.s (.s .z)) (decide_eq_false h4) (dGt (.t .z) (.c rfl)) rfl rfl ?_
          refine lRd (dPickF (.t (.s (.s (.s .z)))) (decide_eq_false h4) (.t .z)) rfl rfl ?_
          refine lRd (dMove (.t .z)) rfl rfl ?_
          refine lCase (fun h5 => ?_) (fun h5 => ?_)
          · refine lPass rfl .z (nbF (decide_eq_true h5)) rfl ?_
            refine lPass rfl .z (nbF (decide_eq_true h5)) rfl ?_
            refine lRd (dPickT (.t .z) (decide_eq_true h5) (.c rfl)) rfl rfl ?_
            refine lKeep (.k (.d (.d (.d (.d (.d (.d (.d (.d (.d (.d (.d (.d (.d (.d (.d (.d (.d (.d (.d (.k (.k .n)))))))))))))))))))))) ?_
            refine lNil ?_
            exact xJoin true () (.c .z (.c (.s .z) (.c (.s (.s .z)) .n))) (.c .z .nil)
          · refine lRdG rfl .z (decide_eq_false h5) (dMove (.t (.s (.s (.s (.s (.s (.s (.s (.s (.s (.s (.s (.s (.s (.s (.s (.s (.s (.s (.s .z))))))))))))))))))))) rfl rfl ?_
            refine lRdG rfl (.s .z) (decide_eq_false h5) (dGt (.t .z) (.c rfl)) rfl rfl ?_
            refine lRd (dPickF (.t (.s (.s .z))) (decide_eq_false h5) (.t .z)) rfl rfl ?_
            refine lKeep (.k (.d (.d (.d (.d (.d (.d (.d (.d (.d (.d (.d (.d (.d (.d (.d (.d (.d (.d (.d (.d (.d (.k (.k .n)))))))))))))))))))))))) ?_
            refine lNil ?_
            exact xJoin (decide ((w64 (a0.f_Rows * a0.f_Cols)) > 4096)) () (.c .z (.c (.s .z) (.c (.s (.s .z)) .n))) (.c .z .nil)
  · refine xCode ?_
    refine cCondB (.t .z) (fun h8 => ?_) (fun h8 => ?_)
    · refine cSeq ?_
      refine cRegion ?_
      refine lRdK (dAssign (.c rfl)) (.k (.k (.d (Keep.refl _)))) rfl rfl ?_
      refine lKeep (.k (.d (.k .n))) ?_
      refine lNil ?_
      refine xCode ?_
      refine cRet ?_
      refine rLeave hD ?_
      exact lvRet (rs := [.tmp 2]) rfl (.t .z .n) () rfl .nil
    · refine cSkip ?_
      refine xCode ?_
      refine cSeq ?_
      refine cRegion ?_
      refine lRd (dMove (.t (.s .z))) rfl rfl ?_
      refine lRdK (dAssign (.t .z)) (.k (.k (.k (.d (Keep.refl _))))) rfl rfl ?_
      refine lKeep (.k .n) ?_
      refine lNil ?_
      refine xCode ?_
      refine cRet ?_
      refine rLeave hD ?_
      exact lvRet (rs := [.tmp 2]) rfl (.t .z .n) () rfl .nil

-- greenscreen/addr.Move
def addr_Move_m (a0 : api_Size) (a1 : Int) (a2 : Int) : Option (Int) := (addr_Cells_m a0).bind fun o2 => (if o2 = 0 then some 0 else (if o2 ≠ 0 then (if o2 ≠ 0 then (if o2 ≠ 0 then (if o2 ≠ 0 then some (Int.tmod (w64 ((Int.tmod (w64 ((Int.tmod a1 o2) + (Int.tmod a2 o2))) o2) + o2)) o2) else none) else none) else none) else none))
theorem addr_Move_c (a0 : api_Size) (a1 : Int) (a2 : Int) : Con Try.prog 74 #[.agg #[.int .i64 a0.f_Rows, .int .i64 a0.f_Cols], .int .i64 a1, .int .i64 a2] [] (addr_Move_m a0 a1 a2) (fun (o : Int) (x : Unit) => .int .i64 o) (fun (o : Int) (x : Unit) => []) := by
  unfold addr_Move_m
  refine con (args := [.agg #[.int .i64 a0.f_Rows, .int .i64 a0.f_Cols], .int .i64 a1, .int .i64 a2]) Try.func74 rfl 25 rfl (.c (.c (.c .n))) rfl fun c hD hrn => ?_
  refine cSeq ?_
  refine cRegion ?_
  refine lCh (cBox (cs := [.int .i64 a0.f_Rows, .int .i64 a0.f_Cols]) (.t .z) rfl) rfl rfl fun b1 => ?_
  refine lRd (dAssign (.c rfl)) rfl rfl ?_
  refine lKeep (.k (.k (.d (.k (.k .n))))) ?_
  refine lNil ?_
  refine xCode ?_
  refine cSeq ?_
  refine cRegion ?_
  refine lRd (dLoadA (us := [.int .i64 a0.f_Rows, .int .i64 a0.f_Cols]) .z agg_23 siz_23 rfl (.t (.s .z)) rfl) rfl rfl ?_
  refine lCall fok_24 (.c (.t .z) .n) (addr_Cells_c a0) .n rfl rfl fun o2 x3 h4 => ?_
  refine lRd (dAssign (.t .z)) rfl rfl ?_
  refine lKeep (.k (.d (.d (.k (.d (.k (.k .n))))))) ?_
  refine lNil ?_
  refine xCode ?_
  refine cSeq ?_
  refine cSeq ?_
  refine cRegion ?_
  refine lRd (dMove (.t .z)) rfl rfl ?_
  refine lRd (dEq (.t .z) (.c rfl)) rfl rfl ?_
  refine lKeep (.k (.d (.k (.k (.k (.k .n)))))) ?_
  refine lNil ?_
  refine xCode ?_
  refine cCond (.t .z) (fun h5 => ?_) (fun h5 => ?_)
  · refine cSeq ?_
    refine cRegion ?_
    refine lRdK (dAssign (.c rfl)) (.k (.k (.d (Keep.refl _)))) rfl rfl ?_
    refine lKeep (.k (.d (.k (.k (.k .n))))) ?_
    refine lNil ?_
    refine xCode ?_
    refine cRet ?_
    refine rLeave hD ?_
    exact lvRet (rs := [.tmp 6]) rfl (.t .z .n) () rfl .nil
  · refine cSkip ?_
    refine xCode ?_
    refine cSeq ?_
    refine cRegionM [] [(0, .early), (1, .early), (2, .early), (3, .early), (4, .early), (5, .early), (6, .early), (7, .early), (8, .early), (9, .early), (10, .early), (11, .early), (12, .early), (13, .early)] mixed (by kernel_rfl) (.c .z .nil) (.c .n) ?_
    refine mRd rfl rfl (fun _ _ _ => dMove (.t (.s (.s (.s .z))))) rfl rfl ?_
    refine mRd rfl rfl (fun _ _ _ => dMove (.t (.s (.s .z)))) rfl rfl ?_
    refine mGuard fun h6 => ?_
    refine mRd rfl rfl (fun _ _ _ => dRem (.t (.s .z)) (.t .z) h6) rfl rfl ?_
    refine mRd rfl rfl (fun _ _ _ => dMove (.t (.s (.s (.s (.s (.s (.s (.s .z))))))))) rfl rfl ?_
    refine mRd rfl rfl (fun _ _ _ => dMove (.t (.s (.s (.s (.s (.s .z))))))) rfl rfl ?_
    refine mGuard fun h7 => ?_
    refine mRd rfl rfl (fun _ _ _ => dRem (.t (.s .z)) (.t .z) h7) rfl rfl ?_
    refine mRd rfl rfl (fun _ _ _ => dAddI (.t (.s (.s (.s .z)))) (.t .z)) rfl rfl ?_
    refine mRd rfl rfl (fun _ _ _ => dMove (.t (.s (.s (.s (.s (.s (.s (.s (.s .z)))))))))) rfl rfl ?_
    refine mGuard fun h8 => ?_
    refine mRd rfl rfl (fun _ _ _ => dRem (.t (.s .z)) (.t .z) h8) rfl rfl ?_
    refine mRd rfl rfl (fun _ _ _ => dMove (.t (.s (.s (.s (.s (.s (.s (.s (.s (.s (.s .z)))))))))))) rfl rfl ?_
    refine mRd rfl rfl (fun _ _ _ => dAddI (.t (.s .z)) (.t .z)) rfl rfl ?_
    refine mRd rfl rfl (fun _ _ _ => dMove (.t (.s (.s (.s (.s (.s (.s (.s (.s (.s (.s (.s (.s .z)))))))))))))) rfl rfl ?_
    refine mGuard fun h9 => ?_
    refine mRd rfl rfl (fun _ _ _ => dRem (.t (.s .z)) (.t .z) h9) rfl rfl ?_
    refine mRdK rfl rfl (fun _ _ _ => dAssign (.t .z)) (.k (.k (.k (.k (.k (.k (.k (.k (.k (.k (.k (.k (.k (.k (.k (.d (Keep.refl _))))))))))))))))) rfl rfl ?_
    refine mKeep (.k .n) ?_
    refine mNil ?_
    refine xCode ?_
    refine cRet ?_
    refine rLeave hD ?_
    exact lvRet (rs := [.tmp 6]) rfl (.t .z .n) () rfl .nil

-- greenscreen/field.look
def field_look_l1 (K : Nat) (a0 : plane_Plane) (a1 : Int) (a2 : Int) (o8 : (Int)) : Nat → (Int) → Option (Sum (Unit) (Int))
  | 0, _ => none
  | n + 1, s11 => (if s11 < o8 then (plane_Plane_Size_m a0).bind fun o17 => (addr_Move_m o17 a1 (w64 (s11 * a2))).bind fun o20 => (plane_Plane_At_m a0 o20).bind fun o23 => (if o23.f_Start = true then some (Sum.inr o20) else (field_look_l1 K a0 a1 a2 o8 n) (w64 (s11 + 1))) else some (Sum.inl ()))
def field_look_m (K : Nat) (a0 : plane_Plane) (a1 : Int) (a2 : Int) : Option (Int) := ((if a1 < 0 then some true else (plane_Plane_Len_m a0).bind fun o2 => some (decide (a1 ≥ o2)))).bind fun (s5 : Bool) => (if s5 = true then some (-1) else (plane_Plane_Len_m a0).bind fun o8 => (field_look_l1 K a0 a1 a2 o8 K 0).bind (onS fun (s27 : Unit) => some (-1)))
theorem field_look_c (K : Nat) (a0 : plane_Plane) (a1 : Int) (a2 : Int) (b0_0 : Nat) (v0_1 : Value) : Con Try.prog 93 #[.pointer (some ⟨b0_0, 0, none⟩), .int .i64 a1, .int .i64 a2] [.blk b0_0 [.int .i64 a0.f_size.f_Rows, .int .i64 a0.f_size.f_Cols, v0_1, .int .i64 a0.f_cursor] 66, .own v0_1 44 k_api_Cell a0.f_cells] (field_look_m K a0 a1 a2) (fun (o : Int) (x : Unit) => .int .i64 o) (fun (o : Int) (x : Unit) => [.blk b0_0 [.int .i64 a0.f_size.f_Rows, .int .i64 a0.f_size.f_Cols, v0_1, .int .i64 a0.f_cursor] 66, .own v0_1 44 k_api_Cell a0.f_cells]) := by
  unfold field_look_m
  refine con (args := [.pointer (some ⟨b0_0, 0, none⟩), .int .i64 a1, .int .i64 a2]) Try.func93 rfl 35 rfl (.c (.c (.c .n))) rfl fun c hD hrn => ?_
  refine cSeq ?_
  refine cRegion ?_
  refine lRd (dAssign (.c rfl)) rfl rfl ?_
  refine lNil ?_
  refine xCode ?_
  refine cSeq ?_
  refine cSeq ?_
  refine cJoin (S := Bool) (X := Unit) (fun (s : Bool) (x : Unit) => [(16, .bool s), (6, .int .i64 0), (0, .pointer (some ⟨b0_0, 0, none⟩)), (1, .int .i64 a1), (2, .int .i64 a2)]) (fun (s : Bool) (x : Unit) => [.blk b0_0 [.int .i64 a0.f_size.f_Rows, .int .i64 a0.f_size.f_Cols, v0_1, .int .i64 a0.f_cursor] 66, .own v0_1 44 k_api_Cell a0.f_cells]) ?_ (fun s5 x6 => ?_)
  · refine cRegion ?_
    refine lRd (dMove (.t (.s (.s .z)))) rfl rfl ?_
    refine lRd (dLt (.t .z) (.c rfl)) rfl rfl ?_
    refine lRd (dMove (.t .z)) rfl rfl ?_
    refine lCase (fun h1 => ?_) (fun h1 => ?_)
    · refine lPass rfl .z (nbF (decide_eq_true h1)) rfl ?_
      refine lPass rfl .z (nbF (decide_eq_true h1)) rfl ?_
      refine lPass rfl .z (nbF (decide_eq_true h1)) rfl ?_
      refine lPass rfl .z (nbF (decide_eq_true h1)) rfl ?_
      refine lRd (dPickT (.t .z) (decide_eq_true h1) (.c rfl)) rfl rfl ?_
      refine lKeep (.k (.d (.d (.d (.k (.k (.k (.k .n)))))))) ?_
      refine lNil ?_
      exact xJoin true () (.c .z (.c (.s .z) (.c (.s (.s .z)) (.c (.s (.s (.s .z))) (.c (.s (.s (.s (.s .z)))) .n))))) (.c .z (.c .z .nil))
    · refine lRdG rfl .z (decide_eq_false h1) (dMove (.t (.s (.s (.s (.s (.s .z))))))) rfl rfl ?_
      refine lRdG rfl (.s .z) (decide_eq_false h1) (dMove (.t (.s (.s (.s (.s (.s .z))))))) rfl rfl ?_
      refine lCallG rfl (.s (.s .z)) (decide_eq_false h1) fok_12 (.c (.t .z) .n) (plane_Plane_Len_c a0 b0_0 v0_1) (.c .z (.c .z .n)) rfl rfl fun o2 x3 h4 => ?_
      refine lRdG rfl (.s (.s (.s .z))) (decide_eq_false h1) (dGe (.t (.s (.s .z))) (.t .z)) rfl rfl ?_
      refine lRd (dPickF (.t (.s (.s (.s (.s .z))))) (decide_eq_false h1) (.t .z)) rfl rfl ?_
      refine lKeep (.k (.d (.d (.d (.d (.d (.d (.d (.k (.k (.k (.k .n)))))))))))) ?_
      refine lNil ?_
      exact xJoin (decide (a1 ≥ o2)) () (.c .z (.c (.s .z) (.c (.s (.s .z)) (.c (.s (.s (.s .z))) (.c (.s (.s (.s (.s .z)))) .n))))) (.c .z (.c .z .nil))
  · refine xCode ?_
    refine cCondB (.t .z) (fun h7 => ?_) (fun h7 => ?_)
    · refine cSeq ?_
      refine cRegion ?_
      refine lRdK (dAssign (.c rfl)) (.k (.d (Keep.refl _))) rfl rfl ?_
      refine lKeep (.k (.d (.k (.k (.k .n))))) ?_
      refine lNil ?_
      refine xCode ?_
      refine cRet ?_
      refine rLeave hD ?_
      exact lvRet (rs := [.tmp 6]) rfl (.t .z .n) () rfl (.c .z (.c .z .nil))
    · refine cSkip ?_
      refine xCode ?_
      refine cSeq ?_
      refine cSeq ?_
      refine cRegion ?_
      refine lRd (dMove (.t (.s (.s .z)))) rfl rfl ?_
      refine lCall fok_12 (.c (.t .z) .n) (plane_Plane_Len_c a0 b0_0 v0_1) (.c .z (.c .z .n)) rfl rfl fun o8 x9 h10 => ?_
      refine lRd (dMove (.c rfl)) rfl rfl ?_
      refine lKeep (.k (.k (.d (.d (.k (.k (.k (.k .n)))))))) ?_
      refine lNil ?_
      refine xCode ?_
      refine cLoopR (S := Int) (X := Unit) (S' := Unit) (X' := Unit) (field_look_l1 K a0 a1 a2 o8) (fun (s : Int) (x : Unit) => [(19, .int .i64 s), (18, .int .i64 o8), (6, .int .i64 0), (0, .pointer (some ⟨b0_0, 0, none⟩)), (1, .int .i64 a1), (2, .int .i64 a2)]) (fun (s : Int) (x : Unit) => [.blk b0_0 [.int .i64 a0.f_size.f_Rows, .int .i64 a0.f_size.f_Cols, v0_1, .int .i64 a0.f_cursor] 66, .own v0_1 44 k_api_Cell a0.f_cells]) (fun (s : Unit) (x : Unit) => [(6, .int .i64 0)]) (fun (s : Unit) (x : Unit) => [.blk b0_0 [.int .i64 a0.f_size.f_Rows, .int .i64 a0.f_size.f_Cols, v0_1, .int .i64 a0.f_cursor] 66, .own v0_1 44 k_api_Cell a0.f_cells]) K 0 () (.c .z (.c (.s .z) (.c (.s (.s .z)) (.c (.s (.s (.s .z))) (.c (.s (.s (.s (.s .z)))) (.c (.s (.s (.s (.s (.s .z))))) .n)))))) (.c .z (.c .z .nil)) (fun _ => rfl) (fun n13 I14 h15 s11 x12 => ?_) (fun s27 x28 => ?_)
      · rw [field_look_l1]
        refine cSeq ?_
        refine cRegion ?_
        refine lRd (dLt (.t .z) (.t (.s .z))) rfl rfl ?_
        refine lNil ?_
        refine xCode ?_
        refine cSeq ?_
        refine cCond (.t .z) (fun h16 => ?_) (fun h16 => ?_)
        · refine cSkip ?_
          refine xCode ?_
          refine cSeq ?_
          refine cBlock ?_
          refine cSeq ?_
          refine cRegion ?_
          refine lRd (dMove (.t (.s .z))) rfl rfl ?_
          refine lRd (dAssign (.t .z)) rfl rfl ?_
          refine lNil ?_
          refine xCode ?_
          refine cSeq ?_
          refine cRegion ?_
          refine lRd (dMove (.t (.s (.s (.s (.s (.s (.s .z)))))))) rfl rfl ?_
          refine lCall fok_10 (.c (.t .z) .n) (plane_Plane_Size_c a0 b0_0 v0_1) (.c .z (.c .z .n)) rfl rfl fun o17 x18 h19 => ?_
          refine lRd (dMove (.t (.s (.s (.s (.s (.s (.s (.s (.s (.s .z))))))))))) rfl rfl ?_
          refine lRd (dMove (.t (.s (.s (.s .z))))) rfl rfl ?_
          refine lRd (dMove (.t (.s (.s (.s (.s (.s (.s (.s (.s (.s (.s (.s (.s .z)))))))))))))) rfl rfl ?_
          refine lRd (dMulI (.t (.s .z)) (.t .z)) rfl rfl ?_
          refine lCall fok_74 (.c (.t (.s (.s (.s (.s .z))))) (.c (.t (.s (.s (.s .z)))) (.c (.t .z) .n))) (addr_Move_c o17 a1 (w64 (s11 * a2))) .n rfl rfl fun o20 x21 h22 => ?_
          refine lRd (dAssign (.t .z)) rfl rfl ?_
          refine lNil ?_
          refine xCode ?_
          refine cSeq ?_
          refine cRegion ?_
          refine lRd (dMove (.t (.s (.s (.s (.s (.s (.s (.s (.s (.s (.s (.s (.s (.s (.s .z)))))))))))))))) rfl rfl ?_
          refine lRd (dMove (.t (.s .z))) rfl rfl ?_
          refine lCall fok_13 (.c (.t (.s .z)) (.c (.t .z) .n)) (plane_Plane_At_c a0 o20 b0_0 v0_1) (.c .z (.c .z .n)) rfl rfl fun o23 x24 h25 => ?_
          refine lRd (dField (u := .bool o23.f_Start) fld_44_2 (.t .z) rfl) rfl rfl ?_
          refine lNil ?_
          refine xCode ?_
          refine cCondB (.t .z) (fun h26 => ?_) (fun h26 => ?_)
          · refine cSeq ?_
            refine cRegion ?_
            refine lRd (dMove (.t (.s (.s (.s (.s .z)))))) rfl rfl ?_
            refine lRdK (dAssign (.t .z)) (.k (.k (.k (.k (.k (.k (.k (.k (.k (.k (.k (.k (.k (.k (.k (.k (.k (.k (.d (Keep.refl _)))))))))))))))))))) rfl rfl ?_
            refine lNil ?_
            refine xCode ?_
            refine cRet ?_
            refine rInner ?_
            refine rLeave hD ?_
            exact lvRet (rs := [.tmp 6]) rfl (.t .z .n) () rfl (.c .z (.c .z .nil))
          · refine cSkip ?_
            refine xBlock ?_
            refine xCode ?_
            refine cRegion ?_
            refine lRd (dAddI (.t (.s (.s (.s (.s (.s (.s (.s (.s (.s (.s (.s (.s (.s (.s (.s .z)))))))))))))))) (.c rfl)) rfl rfl ?_
            refine lRdK (dMove (.t .z)) (.k (.k (.k (.k (.k (.k (.k (.k (.k (.k (.k (.k (.k (.k (.k (.k (.d (Keep.refl _)))))))))))))))))) rfl rfl ?_
            refine lNil ?_
            exact xRound h15 (w64 (s11 + 1)) () (.c .z (.c (.s (.s (.s (.s (.s (.s (.s (.s (.s (.s (.s (.s (.s (.s (.s (.s (.s .z))))))))))))))))) (.c (.s (.s (.s (.s (.s (.s (.s (.s (.s (.s (.s (.s (.s (.s (.s (.s (.s (.s .z)))))))))))))))))) (.c (.s (.s (.s (.s (.s (.s (.s (.s (.s (.s (.s (.s (.s (.s (.s (.s (.s (.s (.s .z))))))))))))))))))) (.c (.s (.s (.s (.s (.s (.s (.s (.s (.s (.s (.s (.s (.s (.s (.s (.s (.s (.s (.s (.s .z)))))))))))))))))))) (.c (.s (.s (.s (.s (.s (.s (.s (.s (.s (.s (.s (.s (.s (.s (.s (.s (.s (.s (.s (.s (.s .z))))))))))))))))))))) .n)))))) (.c .z (.c .z .nil))
        · refine cExit ?_
          refine xOver ?_
          refine xOverF ?_
          exact xBreakR () () (.c (.s (.s (.s .z))) .n) (.c .z (.c .z .nil))
      · refine xCode ?_
        refine cSeq ?_
        refine cRegion ?_
        refine lRdK (dAssign (.c rfl)) (.d (Keep.refl _)) rfl rfl ?_
        refine lNil ?_
        refine xCode ?_
        refine cRet ?_
        refine rLeave hD ?_
        exact lvRet (rs := [.tmp 6]) rfl (.t .z .n) () rfl (.c .z (.c .z .nil))

-- greenscreen/field.After
def field_After_m (K : Nat) (a0 : plane_Plane) (a1 : Int) : Option (Int) := ((if a1 < 0 then some true else (plane_Plane_Len_m a0).bind fun o2 => some (decide (a1 ≥ o2)))).bind fun (s5 : Bool) => (if s5 = true then some (-1) else (plane_Plane_Size_m a0).bind fun o8 => (addr_Move_m o8 a1 1).bind fun o11 => (field_look_m K a0 o11 1).bind fun o14 => some o14)
theorem field_After_c (K : Nat) (a0 : plane_Plane) (a1 : Int) (b0_0 : Nat) (v0_1 : Value) : Con Try.prog 80 #[.pointer (some ⟨b0_0, 0, none⟩), .int .i64 a1] [.blk b0_0 [.int .i64 a0.f_size.f_Rows, .int .i64 a0.f_size.f_Cols, v0_1, .int .i64 a0.f_cursor] 66, .own v0_1 44 k_api_Cell a0.f_cells] (field_After_m K a0 a1) (fun (o : Int) (x : Unit) => .int .i64 o) (fun (o : Int) (x : Unit) => [.blk b0_0 [.int .i64 a0.f_size.f_Rows, .int .i64 a0.f_size.f_Cols, v0_1, .int .i64 a0.f_cursor] 66, .own v0_1 44 k_api_Cell a0.f_cells]) := by
  unfold field_After_m
  refine con (args := [.pointer (some ⟨b0_0, 0, none⟩), .int .i64 a1]) Try.func80 rfl 19 rfl (.c (.c .n)) rfl fun c hD hrn => ?_
  refine cSeq ?_
  refine cRegion ?_
  refine lRd (dAssign (.c rfl)) rfl rfl ?_
  refine lNil ?_
  refine xCode ?_
  refine cSeq ?_
  refine cSeq ?_
  refine cJoin (S := Bool) (X := Unit) (fun (s : Bool) (x : Unit) => [(12, .bool s), (4, .int .i64 0), (0, .pointer (some ⟨b0_0, 0, none⟩)), (1, .int .i64 a1)]) (fun (s : Bool) (x : Unit) => [.blk b0_0 [.int .i64 a0.f_size.f_Rows, .int .i64 a0.f_size.f_Cols, v0_1, .int .i64 a0.f_cursor] 66, .own v0_1 44 k_api_Cell a0.f_cells]) ?_ (fun s5 x6 => ?_)
  · refine cRegion ?_
    refine lRd (dMove (.t (.s (.s .z)))) rfl rfl ?_
    refine lRd (dLt (.t .z) (.c rfl)) rfl rfl ?_
    refine lRd (dMove (.t .z)) rfl rfl ?_
    refine lCase (fun h1 => ?_) (fun h1 => ?_)
    · refine lPass rfl .z (nbF (decide_eq_true h1)) rfl ?_
      refine lPass rfl .z (nbF (decide_eq_true h1)) rfl ?_
      refine lPass rfl .z (nbF (decide_eq_true h1)) rfl ?_
      refine lPass rfl .z (nbF (decide_eq_true h1)) rfl ?_
      refine lRd (dPickT (.t .z) (decide_eq_true h1) (.c rfl)) rfl rfl ?_
      refine lKeep (.k (.d (.d (.d (.k (.k (.k .n))))))) ?_
      refine lNil ?_
      exact xJoin true () (.c .z (.c (.s .z) (.c (.s (.s .z)) (.c (.s (.s (.s .z))) .n)))) (.c .z (.c .z .nil))
    · refine lRdG rfl .z (decide_eq_false h1) (dMove (.t (.s (.s (.s (.s (.s .z))))))) rfl rfl ?_
      refine lRdG rfl (.s .z) (decide_eq_false h1) (dMove (.t (.s (.s (.s (.s (.s .z))))))) rfl rfl ?_
      refine lCallG rfl (.s (.s .z)) (decide_eq_false h1) fok_12 (.c (.t .z) .n) (plane_Plane_Len_c a0 b0_0 v0_1) (.c .z (.c .z .n)) rfl rfl fun o2 x3 h4 => ?_
      refine lRdG rfl (.s (.s (.s .z))) (decide_eq_false h1) (dGe (.t (.s (.s .z))) (.t .z)) rfl rfl ?_
      refine lRd (dPickF (.t (.s (.s (.s (.s .z))))) (decide_eq_false h1) (.t .z)) rfl rfl ?_
      refine lKeep (.k (.d (.d (.d (.d (.d (.d (.d (.k (.k (.k .n))))))))))) ?_
      refine lNil ?_
      exact xJoin (decide (a1 ≥ o2)) () (.c .z (.c (.s .z) (.c (.s (.s .z)) (.c (.s (.s (.s .z))) .n)))) (.c .z (.c .z .nil))
  · refine xCode ?_
    refine cCondB (.t .z) (fun h7 => ?_) (fun h7 => ?_)
    · refine cSeq ?_
      refine cRegion ?_
      refine lRdK (dAssign (.c rfl)) (.k (.d (Keep.refl _))) rfl rfl ?_
      refine lKeep (.k (.d (.k (.k .n)))) ?_
      refine lNil ?_
      refine xCode ?_
      refine cRet ?_
      refine rLeave hD ?_
      exact lvRet (rs := [.tmp 4]) rfl (.t .z .n) () rfl (.c .z (.c .z .nil))
    · refine cSkip ?_
      refine xCode ?_
      refine cSeq ?_
      refine cRegion ?_
      refine lRd (dMove (.t (.s (.s .z)))) rfl rfl ?_
      refine lRd (dMove (.t (.s (.s (.s .z))))) rfl rfl ?_
      refine lCall fok_10 (.c (.t .z) .n) (plane_Plane_Size_c a0 b0_0 v0_1) (.c .z (.c .z .n)) rfl rfl fun o8 x9 h10 => ?_
      refine lRd (dMove (.t (.s (.s (.s (.s (.s (.s .z)))))))) rfl rfl ?_
      refine lCall fok_74 (.c (.t (.s .z)) (.c (.t .z) (.c (.c rfl) .n))) (addr_Move_c o8 a1 1) .n rfl rfl fun o11 x12 h13 => ?_
      refine lCall fok_93 (.c (.t (.s (.s (.s (.s .z))))) (.c (.t .z) (.c (.c rfl) .n))) (field_look_c K a0 o11 1 b0_0 v0_1) (.c .z (.c .z .n)) rfl rfl fun o14 x15 h16 => ?_
      refine lRdK (dAssign (.t .z)) (.k (.k (.k (.k (.k (.k (.k (.d (Keep.refl _))))))))) rfl rfl ?_
      refine lKeep (.k .n) ?_
      refine lNil ?_
      refine xCode ?_
      refine cRet ?_
      refine rLeave hD ?_
      exact lvRet (rs := [.tmp 4]) rfl (.t .z .n) () rfl (.c .z (.c .z .nil))

-- greenscreen/field.at
def field_at_m (K : Nat) (a0 : plane_Plane) (a1 : Int) : Option (field_Field) := (field_After_m K a0 a1).bind fun o2 => ((if (w64 ((w64 (o2 - a1)) - 1)) < 0 then (plane_Plane_Len_m a0).bind fun o6 => some (w64 ((w64 ((w64 (o2 - a1)) - 1)) + o6)) else some (w64 ((w64 (o2 - a1)) - 1)))).bind fun (s9 : Int) => (plane_Plane_At_m a0 a1).bind fun o11 => some (⟨a1, s9, o11.f_Byte &&& (63 : UInt8)⟩ : field_Field)
theorem field_at_c (K : Nat) (a0 : plane_Plane) (a1 : Int) (b0_0 : Nat) (v0_1 : Value) : Con Try.prog 71 #[.pointer (some ⟨b0_0, 0, none⟩), .int .i64 a1] [.blk b0_0 [.int .i64 a0.f_size.f_Rows, .int .i64 a0.f_size.f_Cols, v0_1, .int .i64 a0.f_cursor] 66, .own v0_1 44 k_api_Cell a0.f_cells] (field_at_m K a0 a1) (fun (o : field_Field) (x : Unit) => .agg #[.int .i64 o.f_Start, .int .i64 o.f_Len, vB o.f_Attr]) (fun (o : field_Field) (x : Unit) => [.blk b0_0 [.int .i64 a0.f_size.f_Rows, .int .i64 a0.f_size.f_Cols, v0_1, .int .i64 a0.f_cursor] 66, .own v0_1 44 k_api_Cell a0.f_cells]) := by
  unfold field_at_m
  refine con (args := [.pointer (some ⟨b0_0, 0, none⟩), .int .i64 a1]) Try.func71 rfl 26 rfl (.c (.c .n)) rfl fun c hD hrn => ?_
  refine cSeq ?_
  refine cRegion ?_
  refine lCh (cAlloc (cs := [.int .i64 0, .int .i64 0, vB 0]) zer_109 rfl) rfl rfl fun b1 => ?_
  refine lNil ?_
  refine xCode ?_
  refine cSeq ?_
  refine cRegion ?_
  refine lRd (dMove (.t (.s .z))) rfl rfl ?_
  refine lRd (dMove (.t (.s (.s (.s .z))))) rfl rfl ?_
  refine lCall fok_80 (.c (.t (.s .z)) (.c (.t .z) .n)) (field_After_c K a0 a1 b0_0 v0_1) (.c (.s .z) (.c (.s .z) .n)) rfl rfl fun o2 x3 h4 => ?_
  refine lRd (dMove (.t (.s (.s (.s (.s (.s .z))))))) rfl rfl ?_
  refine lRd (dSubI (.t (.s .z)) (.t .z)) rfl rfl ?_
  refine lRd (dSubI (.t .z) (.c rfl)) rfl rfl ?_
  refine lRd (dAssign (.t .z)) rfl rfl ?_
  refine lKeep (.k (.d (.d (.d (.d (.d (.d (.k (.k (.k .n)))))))))) ?_
  refine lNil ?_
  refine xCode ?_
  refine cSeq ?_
  refine cSeq ?_
  refine cRegion ?_
  refine lRd (dMove (.t .z)) rfl rfl ?_
  refine lRd (dLt (.t .z) (.c rfl)) rfl rfl ?_
  refine lKeep (.k (.d (.k (.k (.k (.k .n)))))) ?_
  refine lNil ?_
  refine xCode ?_
  refine cJoin (S := Int) (X := Unit) (fun (s : Int) (x : Unit) => [(5, .int .i64 s), (4, .pointer (some ⟨b1, 0, none⟩)), (0, .pointer (some ⟨b0_0, 0, none⟩)), (1, .int .i64 a1)]) (fun (s : Int) (x : Unit) => [.blk b0_0 [.int .i64 a0.f_size.f_Rows, .int .i64 a0.f_size.f_Cols, v0_1, .int .i64 a0.f_cursor] 66, .own v0_1 44 k_api_Cell a0.f_cells, .blk b1 [.int .i64 0, .int .i64 0, vB 0] 109]) ?_ (fun s9 x10 => ?_)
  · refine cCond (.t .z) (fun h5 => ?_) (fun h5 => ?_)
    · refine cRegion ?_
      refine lRd (dMove (.t (.s .z))) rfl rfl ?_
      refine lRd (dMove (.t (.s (.s (.s (.s .z)))))) rfl rfl ?_
      refine lCall fok_12 (.c (.t .z) .n) (plane_Plane_Len_c a0 b0_0 v0_1) (.c .z (.c .z .n)) rfl rfl fun o6 x7 h8 => ?_
      refine lRd (dAddI (.t (.s (.s .z))) (.t .z)) rfl rfl ?_
      refine lRdK (dAssign (.t .z)) (.k (.k (.k (.k (.k (.d (Keep.refl _))))))) rfl rfl ?_
      refine lKeep (.k (.d (.d (.d (.d (.d (.k (.k (.k .n))))))))) ?_
      refine lNil ?_
      exact xJoin (w64 ((w64 ((w64 (o2 - a1)) - 1)) + o6)) () (.c .z (.c (.s .z) (.c (.s (.s .z)) (.c (.s (.s (.s .z))) .n)))) (.c .z (.c .z (.c .z .nil)))
    · refine cSkip ?_
      exact xJoin (w64 ((w64 (o2 - a1)) - 1)) () (.c (.s .z) (.c (.s (.s .z)) (.c (.s (.s (.s .z))) (.c (.s (.s (.s (.s .z)))) .n)))) (.c .z (.c .z (.c .z .nil)))
  · refine xCode ?_
    refine cSeq ?_
    refine cRegion ?_
    refine lRd (dMove (.t (.s (.s (.s .z))))) rfl rfl ?_
    refine lRd (dMove (.t (.s .z))) rfl rfl ?_
    refine lRd (dMove (.t (.s (.s (.s (.s .z)))))) rfl rfl ?_
    refine lRd (dMove (.t (.s (.s (.s (.s (.s (.s .z)))))))) rfl rfl ?_
    refine lCall fok_13 (.c (.t (.s .z)) (.c (.t .z) .n)) (plane_Plane_At_c a0 a1 b0_0 v0_1) (.c .z (.c .z .n)) rfl rfl fun o11 x12 h13 => ?_
    refine lRd (dField (u := vB o11.f_Byte) fld_44_0 (.t .z) rfl) rfl rfl ?_
    refine lRd (dAndB (.t .z) (.c (v' := vB 63) rfl)) rfl rfl ?_
    refine lRd (dBuild (cs := [.int .i64 a1, .int .i64 s9, vB (o11.f_Byte &&& (63 : UInt8))]) zer_109 rfl plc_109 (.c (.t (.s (.s (.s (.s (.s (.s .z))))))) (.c (.t (.s (.s (.s (.s (.s .z)))))) (.c (.t .z) .n))) rfl) rfl rfl ?_
    refine lChU (uStoreA (us := [.int .i64 a1, .int .i64 s9, vB (o11.f_Byte &&& (63 : UInt8))]) (cs' := [.int .i64 a1, .int .i64 s9, vB (o11.f_Byte &&& (63 : UInt8))]) (.s (.s .z)) siz_109 rfl (by intro u hu; simp only [List.mem_cons, List.not_mem_nil, or_false] at hu; rcases hu with rfl | rfl | rfl <;> first | rfl | assumption) rfl (by simp) (.t (.s (.s (.s (.s (.s (.s (.s (.s (.s .z)))))))))) (.t .z)) ?_
    refine lKeep (.d (.d (.d (.d (.d (.d (.d (.d (.d (.k .n)))))))))) ?_
    refine lNil ?_
    refine xCode ?_
    refine cRet ?_
    refine rLeave hD ?_
    exact lvRet (rs := [.cell 4 109]) rfl (.a .z (.s (.s .z)) agg_109 siz_109 .n) () rfl (.c .z (.c .z .nil))

-- greenscreen/field.All
def field_All_m (a0 : plane_Plane) : Option (Unit) := some ()
theorem field_All_c (a0 : plane_Plane) (b0_0 : Nat) (v0_1 : Value) : Con Try.prog 47 #[.pointer (some ⟨b0_0, 0, none⟩)] [.blk b0_0 [.int .i64 a0.f_size.f_Rows, .int .i64 a0.f_size.f_Cols, v0_1, .int .i64 a0.f_cursor] 66, .own v0_1 44 k_api_Cell a0.f_cells] (field_All_m a0) (fun (o : Unit) (x : Nat) => .func (.func 70) #[] #[.pointer (some ⟨x, 0, none⟩)]) (fun (o : Unit) (x : Nat) => [.blk b0_0 [.int .i64 a0.f_size.f_Rows, .int .i64 a0.f_size.f_Cols, v0_1, .int .i64 a0.f_cursor] 66, .own v0_1 44 k_api_Cell a0.f_cells, .blk x [.pointer (some ⟨b0_0, 0, none⟩)] 39]) := by
  unfold field_All_m
  refine con (args := [.pointer (some ⟨b0_0, 0, none⟩)]) Try.func47 rfl 4 rfl (.c .n) rfl fun c hD hrn => ?_
  refine cSeq ?_
  refine cRegion ?_
  refine lCh (cBox (cs := [.pointer (some ⟨b0_0, 0, none⟩)]) (.t .z) rfl) rfl rfl fun b1 => ?_
  refine lRd (dAssign (.c rfl)) rfl rfl ?_
  refine lKeep (.k (.k .n)) ?_
  refine lNil ?_
  refine xCode ?_
  refine cSeq ?_
  refine cRegion ?_
  refine lRd (dMakeFuncL (vs := [.pointer (some ⟨b1, 0, none⟩)]) (.c (.t (.s .z)) .n)) rfl rfl ?_
  refine lRdK (dAssign (.t .z)) (.k (.d (Keep.refl _))) rfl rfl ?_
  refine lKeep (.k .n) ?_
  refine lNil ?_
  refine xCode ?_
  refine cRet ?_
  refine rLeave hD ?_
  exact lvRet (rs := [.tmp 2]) rfl (.t .z .n) b1 rfl (.c (.s .z) (.c (.s .z) (.c .z .nil)))

-- greenscreen/attr.Modified
def attr_Modified_m (a0 : UInt8) : Option (Bool) := some (decide ((a0 &&& (1 : UInt8)) ≠ (0 : UInt8)))
theorem attr_Modified_c (a0 : UInt8) : Con Try.prog 48 #[vB a0] [] (attr_Modified_m a0) (fun (o : Bool) (x : Unit) => .bool o) (fun (o : Bool) (x : Unit) => []) := by
  unfold attr_Modified_m
  refine con (args := [vB a0]) Try.func48 rfl 6 rfl (.c .n) rfl fun c hD hrn => ?_
  refine cSeq ?_
  refine cRegion ?_
  refine lRd (dAssign (.c rfl)) rfl rfl ?_
  refine lNil ?_
  refine xCode ?_
  refine cSeq ?_
  refine cRegion ?_
  refine lRd (dMove (.t (.s .z))) rfl rfl ?_
  refine lRd (dAndB (.t .z) (.c (v' := vB 1) rfl)) rfl rfl ?_
  refine lRd (dNeB (.t .z) (.c (v' := vB 0) rfl)) rfl rfl ?_
  refine lRdK (dAssign (.t .z)) (.k (.k (.k (.d (Keep.refl _))))) rfl rfl ?_
  refine lKeep (.k .n) ?_
  refine lNil ?_
  refine xCode ?_
  refine cRet ?_
  refine rLeave hD ?_
  exact lvRet (rs := [.tmp 2]) rfl (.t .z .n) () rfl .nil

-- (*greenscreen/plane.Plane).Set
def plane_Plane_Set_m (a0 : plane_Plane) (a1 : Int) (a2 : api_Cell) : Option (plane_Plane × Bool) := (plane_Plane_has_m a0 a1).bind fun o2 => (if (!o2) = true then some (a0, false) else (ix a0.f_cells a1).bind fun y6 => some ((⟨a0.f_size, (a0.f_cells.set (Int.toNat a1) a2), a0.f_cursor⟩ : plane_Plane), true))
theorem plane_Plane_Set_c (a0 : plane_Plane) (a1 : Int) (a2 : api_Cell) (b0_0 : Nat) (v0_1 : Value) : Con Try.prog 54 #[.pointer (some ⟨b0_0, 0, none⟩), .int .i64 a1, .agg #[vB a2.f_Byte, .bool a2.f_GE, .bool a2.f_Start, vB a2.f_Light, vB a2.f_Color]] [.blk b0_0 [.int .i64 a0.f_size.f_Rows, .int .i64 a0.f_size.f_Cols, v0_1, .int .i64 a0.f_cursor] 66, .own v0_1 44 k_api_Cell a0.f_cells] (plane_Plane_Set_m a0 a1 a2) (fun (o : plane_Plane × Bool) (x : Unit) => .bool o.2) (fun (o : plane_Plane × Bool) (x : Unit) => [.blk b0_0 [.int .i64 o.1.f_size.f_Rows, .int .i64 o.1.f_size.f_Cols, v0_1, .int .i64 o.1.f_cursor] 66, .own v0_1 44 k_api_Cell o.1.f_cells]) := by
  unfold plane_Plane_Set_m
  refine con (args := [.pointer (some ⟨b0_0, 0, none⟩), .int .i64 a1, .agg #[vB a2.f_Byte, .bool a2.f_GE, .bool a2.f_Start, vB a2.f_Light, vB a2.f_Color]]) Try.func54 rfl 18 rfl (.c (.c (.c .n))) rfl fun c hD hrn => ?_
  refine cSeq ?_
  refine cRegion ?_
  refine lCh (cBox (cs := [vB a2.f_Byte, .bool a2.f_GE, .bool a2.f_Start, vB a2.f_Light, vB a2.f_Color]) (.t (.s (.s .z))) rfl) rfl rfl fun b1 => ?_
  refine lRd (dAssign (.c rfl)) rfl rfl ?_
  refine lKeep (.k (.k (.k (.k .n)))) ?_
  refine lNil ?_
  refine xCode ?_
  refine cSeq ?_
  refine cSeq ?_
  refine cRegion ?_
  refine lRd (dMove (.t (.s (.s .z)))) rfl rfl ?_
  refine lRd (dMove (.t (.s (.s (.s (.s .z)))))) rfl rfl ?_
  refine lCall fok_21 (.c (.t (.s .z)) (.c (.t .z) .n)) (plane_Plane_has_c a0 a1 b0_0 v0_1) (.c (.s .z) (.c (.s .z) .n)) rfl rfl fun o2 x3 h4 => ?_
  refine lRd (dNot (.t .z)) rfl rfl ?_
  refine lKeep (.k (.d (.d (.d (.k (.k (.k (.k .n)))))))) ?_
  refine lNil ?_
  refine xCode ?_
  refine cCondB (.t .z) (fun h5 => ?_) (fun h5 => ?_)
  · refine cSeq ?_
    refine cRegion ?_
    refine lRdK (dAssign (.c rfl)) (.k (.d (Keep.refl _))) rfl rfl ?_
    refine lKeep (.k (.d (.k (.k (.k .n))))) ?_
    refine lNil ?_
    refine xCode ?_
    refine cRet ?_
    refine rLeave hD ?_
    exact lvRet (rs := [.tmp 6]) rfl (.t .z .n) () rfl (.c .z (.c .z .nil))
  · refine cSkip ?_
    refine xCode ?_
    refine cSeq ?_
    refine cRegionM [7] [(0, .early), (1, .early), (2, .early), (3, .early), (4, .early), (5, .early), (6, .early), (7, .only)] mixed (by kernel_rfl) (.c .z (.c (.s .z) (.c .z .nil))) (.c (.c .n)) ?_
    refine mRd rfl rfl (fun _ _ _ => dMove (.t (.s (.s (.s .z))))) rfl rfl ?_
    refine mRd rfl rfl (fun _ _ _ => dNil (.t .z)) rfl rfl ?_
    refine mRd rfl rfl (fun _ _ _ => dFld fld_66_1 (by decide) (.t .z) rfl) rfl rfl ?_
    refine mRd rfl rfl (fun _ _ _ => dLoad .z agg_27 (.t .z) rfl) rfl rfl ?_
    refine mRd rfl rfl (fun _ _ _ => dMove (.t (.s (.s (.s (.s (.s (.s (.s (.s .z)))))))))) rfl rfl ?_
    refine mRd rfl rfl (fun _ _ _ => dLoadA (us := [vB a2.f_Byte, .bool a2.f_GE, .bool a2.f_Start, vB a2.f_Light, vB a2.f_Color]) (.s .z) agg_44 siz_44 rfl (.t (.s (.s (.s (.s (.s (.s (.s .z)))))))) rfl) rfl rfl ?_
    refine mIx fun y6 h7 h8 => ?_
    refine mRd rfl rfl (fun _ _ _ => dIxAddr (slOwn (.s (.s .z))) und_27 siz_44 (.t (.s (.s .z))) (.t (.s .z)) h7 h8) rfl rfl ?_
    refine mChU rfl rfl (uStoreEA (us := [vB a2.f_Byte, .bool a2.f_GE, .bool a2.f_Start, vB a2.f_Light, vB a2.f_Color]) (z' := a2) (.s (.s .z)) (.s (.s .z)) siz_44 rfl (by intro u hu; simp only [List.mem_cons, List.not_mem_nil, or_false] at hu; rcases hu with rfl | rfl | rfl | rfl | rfl <;> first | rfl | assumption) (.t .z) (.t (.s .z)) h8 (fun _ _ cs _ h => by cases h; exact ⟨by simp, rfl⟩)) (.c .z (.c .z (.c .z .nil))) (.c (.c .n)) ?_
    refine mKeep (.d (.d (.d (.d (.d (.d (.d (.d (.k .n))))))))) ?_
    refine mNil ?_
    refine xCode ?_
    refine cSeq ?_
    refine cRegion ?_
    refine lRdK (dAssign (.c rfl)) (.d (Keep.refl _)) rfl rfl ?_
    refine lNil ?_
    refine xCode ?_
    refine cRet ?_
    refine rLeave hD ?_
    exact lvRet (rs := [.tmp 6]) rfl (.t .z .n) () rfl (.c .z (.c (.s .z) .nil))

-- greenscreen/attr.Modify
def attr_Modify_m (a0 : UInt8) (a1 : Bool) : Option (UInt8) := (if a1 = true then some (a0 ||| (1 : UInt8)) else some (a0 &&& ~~~(1 : UInt8)))
theorem attr_Modify_c (a0 : UInt8) (a1 : Bool) : Con Try.prog 56 #[vB a0, .bool a1] [] (attr_Modify_m a0 a1) (fun (o : UInt8) (x : Unit) => vB o) (fun (o : UInt8) (x : Unit) => []) := by
  unfold attr_Modify_m
  refine con (args := [vB a0, .bool a1]) Try.func56 rfl 10 rfl (.c (.c .n)) rfl fun c hD hrn => ?_
  refine cSeq ?_
  refine cRegion ?_
  refine lRd (dAssign (.c (v' := vB 0) rfl)) rfl rfl ?_
  refine lNil ?_
  refine xCode ?_
  refine cSeq ?_
  refine cSeq ?_
  refine cRegion ?_
  refine lRd (dMove (.t (.s (.s .z)))) rfl rfl ?_
  refine lKeep (.k (.k (.k .n))) ?_
  refine lNil ?_
  refine xCode ?_
  refine cCondB (.t .z) (fun h1 => ?_) (fun h1 => ?_)
  · refine cSeq ?_
    refine cRegion ?_
    refine lRd (dMove (.t (.s (.s .z)))) rfl rfl ?_
    refine lRd (dOrB (.t .z) (.c (v' := vB 1) rfl)) rfl rfl ?_
    refine lRdK (dAssign (.t .z)) (.k (.k (.k (.d (Keep.refl _))))) rfl rfl ?_
    refine lKeep (.k (.d (.d (.d (.k .n))))) ?_
    refine lNil ?_
    refine xCode ?_
    refine cRet ?_
    refine rLeave hD ?_
    exact lvRet (rs := [.tmp 4]) rfl (.t .z .n) () rfl .nil
  · refine cSkip ?_
    refine xCode ?_
    refine cSeq ?_
    refine cRegion ?_
    refine lRd (dMove (.t (.s (.s .z)))) rfl rfl ?_
    refine lRd (dAndNotB (.t .z) (.c (v' := vB 1) rfl)) rfl rfl ?_
    refine lRdK (dAssign (.t .z)) (.k (.k (.k (.d (Keep.refl _))))) rfl rfl ?_
    refine lKeep (.k .n) ?_
    refine lNil ?_
    refine xCode ?_
    refine cRet ?_
    refine rLeave hD ?_
    exact lvRet (rs := [.tmp 4]) rfl (.t .z .n) () rfl .nil

-- greenscreen/field.modify
def field_modify_m (a0 : plane_Plane) (a1 : Int) (a2 : Bool) : Option (plane_Plane) := (plane_Plane_At_m a0 a1).bind fun o1 => (attr_Modify_m o1.f_Byte a2).bind fun o5 => (plane_Plane_Set_m a0 a1 (⟨o5, o1.f_GE, o1.f_Start, o1.f_Light, o1.f_Color⟩ : api_Cell)).bind fun o8 => some o8.1
theorem field_modify_c (a0 : plane_Plane) (a1 : Int) (a2 : Bool) (b0_0 : Nat) (v0_1 : Value) : Con Try.prog 49 #[.pointer (some ⟨b0_0, 0, none⟩), .int .i64 a1, .bool a2] [.blk b0_0 [.int .i64 a0.f_size.f_Rows, .int .i64 a0.f_size.f_Cols, v0_1, .int .i64 a0.f_cursor] 66, .own v0_1 44 k_api_Cell a0.f_cells] (field_modify_m a0 a1 a2) (fun (o : plane_Plane) (x : Unit) => .tuple #[]) (fun (o : plane_Plane) (x : Unit) => [.blk b0_0 [.int .i64 o.f_size.f_Rows, .int .i64 o.f_size.f_Cols, v0_1, .int .i64 o.f_cursor] 66, .own v0_1 44 k_api_Cell o.f_cells]) := by
  unfold field_modify_m
  refine con (args := [.pointer (some ⟨b0_0, 0, none⟩), .int .i64 a1, .bool a2]) Try.func49 rfl 19 rfl (.c (.c (.c .n))) rfl fun c hD hrn => ?_
  refine cSeq ?_
  refine cRegion ?_
  refine lRd (dMove (.t .z)) rfl rfl ?_
  refine lRd (dMove (.t (.s (.s .z)))) rfl rfl ?_
  refine lCall fok_13 (.c (.t (.s .z)) (.c (.t .z) .n)) (plane_Plane_At_c a0 a1 b0_0 v0_1) (.c .z (.c .z .n)) rfl rfl fun o1 x2 h3 => ?_
  refine lCh (cAlloc (cs := [vB 0, .bool false, .bool false, vB 0, vB 0]) zer_44 rfl) rfl rfl fun b4 => ?_
  refine lChU (uStoreA (us := [vB o1.f_Byte, .bool o1.f_GE, .bool o1.f_Start, vB o1.f_Light, vB o1.f_Color]) (cs' := [vB o1.f_Byte, .bool o1.f_GE, .bool o1.f_Start, vB o1.f_Light, vB o1.f_Color]) .z siz_44 rfl (by intro u hu; simp only [List.mem_cons, List.not_mem_nil, or_false] at hu; rcases hu with rfl | rfl | rfl | rfl | rfl <;> first | rfl | assumption) rfl (by simp) (.t .z) (.t (.s .z))) ?_
  refine lKeep (.k (.d (.d (.d (.k (.k (.k .n))))))) ?_
  refine lNil ?_
  refine xCode ?_
  refine cSeq ?_
  refine cRegion ?_
  refine lRd (dFld fld_44_0 (by decide) (.t .z) rfl) rfl rfl ?_
  refine lRd (dLoad .z agg_5 (.t .z) rfl) rfl rfl ?_
  refine lRd (dMove (.t (.s (.s (.s (.s (.s .z))))))) rfl rfl ?_
  refine lCall fok_56 (.c (.t (.s .z)) (.c (.t .z) .n)) (attr_Modify_c o1.f_Byte a2) .n rfl rfl fun o5 x6 h7 => ?_
  refine lRd (dFld fld_44_0 (by decide) (.t (.s (.s (.s (.s .z))))) rfl) rfl rfl ?_
  refine lChU (uStore .z siz_5 rfl .z (.t .z) (.t (.s .z))) ?_
  refine lKeep (.d (.d (.d (.d (.d (.k (.k (.k .n)))))))) ?_
  refine lNil ?_
  refine xCode ?_
  refine cRegion ?_
  refine lRd (dMove (.t (.s .z))) rfl rfl ?_
  refine lRd (dMove (.t (.s (.s (.s .z))))) rfl rfl ?_
  refine lRd (dLoadA (us := [vB o5, .bool o1.f_GE, .bool o1.f_Start, vB o1.f_Light, vB o1.f_Color]) .z agg_44 siz_44 rfl (.t (.s (.s .z))) rfl) rfl rfl ?_
  refine lCallN fok_54 (.c (.t (.s (.s .z))) (.c (.t (.s .z)) (.c (.t .z) .n))) (plane_Plane_Set_c a0 a1 (⟨o5, o1.f_GE, o1.f_Start, o1.f_Light, o1.f_Color⟩ : api_Cell) b0_0 v0_1) (.c (.s .z) (.c (.s .z) .n)) rfl fun o8 x9 h10 => ?_
  refine lKeep .n ?_
  refine lNil ?_
  refine xLeave hD ?_
  exact lvRet (rs := []) rfl .n () rfl (.c .z (.c .z .nil))

-- greenscreen/field.Unmark
def field_Unmark_l1 (K : Nat) (o13 : (Int)) : Nat → (Int × Int × Int × (List api_Cell) × Int × Int) → Option (Sum (Int × Int × (List api_Cell) × Int × Int) (Sum (Int × Int × (List api_Cell) × Int × Int) (Unit)))
  | 0, _ => none
  | n + 1, s16 => (if s16.1 < o13 then (plane_Plane_At_m (⟨(⟨s16.2.1, s16.2.2.1⟩ : api_Size), s16.2.2.2.1, s16.2.2.2.2.1⟩ : plane_Plane) s16.1).bind fun o22 => (if o22.f_Start = true then (field_at_m K (⟨(⟨s16.2.1, s16.2.2.1⟩ : api_Size), s16.2.2.2.1, s16.2.2.2.2.1⟩ : plane_Plane) s16.1).bind fun o26 => ((attr_Modified_m o26.f_Attr).bind fun o30 => (if o30 = true then (field_modify_m (⟨(⟨s16.2.1, s16.2.2.1⟩ : api_Size), s16.2.2.2.1, s16.2.2.2.2.1⟩ : plane_Plane) o26.f_Start false).bind fun o34 => some (Sum.inl (o34.f_size.f_Rows, o34.f_size.f_Cols, o34.f_cells, o34.f_cursor, w64 (s16.2.2.2.2.2 + 1))) else some (Sum.inl (s16.2.1, s16.2.2.1, s16.2.2.2.1, s16.2.2.2.2.1, s16.2.2.2.2.2)))).bind (onE (fun (s37 : Int × Int × (List api_Cell) × Int × Int) => (field_Unmark_l1 K o13 n) (w64 (s16.1 + 1), s37.1, s37.2.1, s37.2.2.1, s37.2.2.2.1, s37.2.2.2.2)) (fun (_ : Unit) => none)) else (field_Unmark_l1 K o13 n) (w64 (s16.1 + 1), s16.2.1, s16.2.2.1, s16.2.2.2.1, s16.2.2.2.2.1, s16.2.2.2.2.2)) else some (Sum.inl (s16.2.1, s16.2.2.1, s16.2.2.2.1, s16.2.2.2.2.1, s16.2.2.2.2.2)))
def field_Unmark_m (K : Nat) (a0 : plane_Plane) : Option (plane_Plane × Int) := (field_All_m a0).bind fun o3 => ((plane_Plane_Len_m a0).bind fun o13 => (field_Unmark_l1 K o13 K (0, a0.f_size.f_Rows, a0.f_size.f_Cols, a0.f_cells, a0.f_cursor, 0)).bind (onS fun (s40 : Int × Int × (List api_Cell) × Int × Int) => some (Sum.inl (s40.1, s40.2.1, s40.2.2.1, s40.2.2.2.1, s40.2.2.2.2)))).bind (onE (fun (s42 : Int × Int × (List api_Cell) × Int × Int) => some ((⟨(⟨s42.1, s42.2.1⟩ : api_Size), s42.2.2.1, s42.2.2.2.1⟩ : plane_Plane), s42.2.2.2.2)) (fun (_ : Unit) => none))
theorem field_Unmark_c (K : Nat) (a0 : plane_Plane) (b0_0 : Nat) (v0_1 : Value) : Con Try.prog 33 #[.pointer (some ⟨b0_0, 0, none⟩)] [.blk b0_0 [.int .i64 a0.f_size.f_Rows, .int .i64 a0.f_size.f_Cols, v0_1, .int .i64 a0.f_cursor] 66, .own v0_1 44 k_api_Cell a0.f_cells] (field_Unmark_m K a0) (fun (o : plane_Plane × Int) (x : Unit) => .int .i64 o.2) (fun (o : plane_Plane × Int) (x : Unit) => [.blk b0_0 [.int .i64 o.1.f_size.f_Rows, .int .i64 o.1.f_size.f_Cols, v0_1, .int .i64 o.1.f_cursor] 66, .own v0_1 44 k_api_Cell o.1.f_cells]) := by
  unfold field_Unmark_m
  refine con (args := [.pointer (some ⟨b0_0, 0, none⟩)]) Try.func33 rfl 18 rfl (.c .n) rfl fun c hD hrn => ?_
  refine cSeq ?_
  refine cRegion ?_
  refine lCh (cBox (cs := [.pointer (some ⟨b0_0, 0, none⟩)]) (.t .z) rfl) rfl rfl fun b1 => ?_
  refine lRd (dAssign (.c rfl)) rfl rfl ?_
  refine lKeep (.k (.k .n)) ?_
  refine lNil ?_
  refine xCode ?_
  refine cSeq ?_
  refine cRegion ?_
  refine lCh (cAlloc (cs := [.int .i64 0]) zer_3 rfl) rfl rfl fun b2 => ?_
  refine lChU (uStore .z siz_3 rfl .z (.t .z) (.c rfl)) ?_
  refine lNil ?_
  refine xCode ?_
  refine cSeq ?_
  refine cSeq ?_
  refine cRegion ?_
  refine lRd (dLoad (.s .z) agg_39 (.t (.s (.s .z))) rfl) rfl rfl ?_
  refine lCall fok_47 (.c (.t .z) .n) (field_All_c a0 b0_0 v0_1) (.c (.s (.s .z)) (.c (.s (.s .z)) .n)) rfl rfl fun o3 x4 h5 => ?_
  refine lKeep (.k (.d (.k (.k (.k .n))))) ?_
  refine lNil ?_
  refine xCode ?_
  refine cBlock ?_
  refine cRange (X := (Unit) × (Unit)) (jc := .ret) (L1 := (fun (s : Int × Int × (List api_Cell) × Int × Int) (x : (Unit) × (Unit)) => [.blk b0_0 [.int .i64 s.1, .int .i64 s.2.1, v0_1, .int .i64 s.2.2.2.1] 66, .own v0_1 44 k_api_Cell s.2.2.1, .blk x4 [.pointer (some ⟨b0_0, 0, none⟩)] 39, .blk b2 [.int .i64 s.2.2.2.2] 3, .blk b1 [.pointer (some ⟨b0_0, 0, none⟩)] 39])) (L2 := (fun (s : Unit) (x : (Unit) × (Unit)) => [])) (rv := fun _ _ => .tuple #[]) (cap := [.pointer (some ⟨x4, 0, none⟩)]) hrn (.t .z) fok_70 (fun fn9 T7 D8 b6 as12 bd12 h11 h12 h10 => ?_) (fun s42 x43 D44 => ?_) (fun _ _ _ => cStuck)
  · refine con (args := [.func (.yield b6) #[] #[], .pointer (some ⟨x4, 0, none⟩)]) Try.func70 rfl 22 rfl (.c (.c .n)) rfl fun c hD hrn => ?_
    refine cSeq ?_
    refine cRegion ?_
    refine lRd (dLoad (.s (.s (.s .z))) agg_39 (.t (.s .z)) rfl) rfl rfl ?_
    refine lCall fok_12 (.c (.t .z) .n) (plane_Plane_Len_c a0 b0_0 v0_1) (.c (.s .z) (.c (.s .z) .n)) rfl rfl fun o13 x14 h15 => ?_
    refine lRd (dMove (.c rfl)) rfl rfl ?_
    refine lKeep (.k (.k (.d (.k (.k .n))))) ?_
    refine lNil ?_
    refine xCode ?_
    refine cLoopR (S := Int × Int × Int × (List api_Cell) × Int × Int) (X := Unit) (S' := Int × Int × (List api_Cell) × Int × Int) (X' := Unit) (field_Unmark_l1 K o13) (fun (s : Int × Int × Int × (List api_Cell) × Int × Int) (x : Unit) => [(6, .int .i64 s.1), (5, .int .i64 o13), (0, .func (.yield b6) #[] #[]), (1, .pointer (some ⟨x4, 0, none⟩))]) (fun (s : Int × Int × Int × (List api_Cell) × Int × Int) (x : Unit) => [.obj b6 (rc fn9 T7 [7] as12 bd12 D8 .ready none), .blk b0_0 [.int .i64 s.2.1, .int .i64 s.2.2.1, v0_1, .int .i64 s.2.2.2.2.1] 66, .own v0_1 44 k_api_Cell s.2.2.2.1, .blk x4 [.pointer (some ⟨b0_0, 0, none⟩)] 39, .blk b2 [.int .i64 s.2.2.2.2.2] 3, .blk b1 [.pointer (some ⟨b0_0, 0, none⟩)] 39]) (fun (s : Int × Int × (List api_Cell) × Int × Int) (x : Unit) => []) (fun (s : Int × Int × (List api_Cell) × Int × Int) (x : Unit) => [.obj b6 (rc fn9 T7 [7] as12 bd12 D8 .ready none), .blk b0_0 [.int .i64 s.1, .int .i64 s.2.1, v0_1, .int .i64 s.2.2.2.1] 66, .own v0_1 44 k_api_Cell s.2.2.1, .blk x4 [.pointer (some ⟨b0_0, 0, none⟩)] 39, .blk b2 [.int .i64 s.2.2.2.2] 3, .blk b1 [.pointer (some ⟨b0_0, 0, none⟩)] 39]) K (0, a0.f_size.f_Rows, a0.f_size.f_Cols, a0.f_cells, a0.f_cursor, 0) () (.c .z (.c (.s .z) (.c (.s (.s .z)) (.c (.s (.s (.s .z))) .n)))) (.c (.s (.s .z)) (.c .z (.c .z (.c .z (.c .z (.c .z .nil)))))) (fun _ => rfl) (fun n18 I19 h20 s16 x17 => ?_) (fun s40 x41 => ?_)
    · rw [field_Unmark_l1]
      refine cSeq ?_
      refine cRegion ?_
      refine lRd (dLt (.t .z) (.t (.s .z))) rfl rfl ?_
      refine lNil ?_
      refine xCode ?_
      refine cSeq ?_
      refine cCond (.t .z) (fun h21 => ?_) (fun h21 => ?_)
      · refine cSkip ?_
        refine xCode ?_
        refine cSeq ?_
        refine cBlock ?_
        refine cSeq ?_
        refine cRegion ?_
        refine lRd (dMove (.t (.s .z))) rfl rfl ?_
        refine lRd (dAssign (.t .z)) rfl rfl ?_
        refine lNil ?_
        refine xCode ?_
        refine cSeq ?_
        refine cRegion ?_
        refine lRd (dLoad (.s (.s (.s .z))) agg_39 (.t (.s (.s (.s (.s (.s (.s .z))))))) rfl) rfl rfl ?_
        refine lRd (dMove (.t (.s .z))) rfl rfl ?_
        refine lCall fok_13 (.c (.t (.s .z)) (.c (.t .z) .n)) (plane_Plane_At_c (⟨(⟨s16.2.1, s16.2.2.1⟩ : api_Size), s16.2.2.2.1, s16.2.2.2.2.1⟩ : plane_Plane) s16.1 b0_0 v0_1) (.c (.s .z) (.c (.s .z) .n)) rfl rfl fun o22 x23 h24 => ?_
        refine lRd (dField (u := .bool o22.f_Start) fld_44_2 (.t .z) rfl) rfl rfl ?_
        refine lRd (dMove (.t .z)) rfl rfl ?_
        refine lCase (fun h25 => ?_) (fun h25 => ?_)
        · refine lRdG rfl .z h25 (dMove (.t (.s (.s (.s (.s (.s (.s (.s (.s (.s (.s .z)))))))))))) rfl rfl ?_
          refine lRdG rfl (.s .z) h25 (dLoad (.s (.s (.s .z))) agg_39 (.t (.s (.s (.s (.s (.s (.s (.s (.s (.s (.s (.s (.s .z))))))))))))) rfl) rfl rfl ?_
          refine lRdG rfl (.s (.s .z)) h25 (dMove (.t (.s (.s (.s (.s (.s (.s (.s .z))))))))) rfl rfl ?_
          refine lCallG rfl (.s (.s (.s .z))) h25 fok_71 (.c (.t (.s .z)) (.c (.t .z) .n)) (field_at_c K (⟨(⟨s16.2.1, s16.2.2.1⟩ : api_Size), s16.2.2.2.1, s16.2.2.2.2.1⟩ : plane_Plane) s16.1 b0_0 v0_1) (.c .z (.c .z .n)) rfl rfl fun o26 x27 h28 => ?_
          refine lYieldG (X := (Unit) × (Unit)) (jc := .ret) (L1 := (fun (s : Int × Int × (List api_Cell) × Int × Int) (x : (Unit) × (Unit)) => [.blk b0_0 [.int .i64 s.1, .int .i64 s.2.1, v0_1, .int .i64 s.2.2.2.1] 66, .own v0_1 44 k_api_Cell s.2.2.1, .blk x4 [.pointer (some ⟨b0_0, 0, none⟩)] 39, .blk b2 [.int .i64 s.2.2.2.2] 3, .blk b1 [.pointer (some ⟨b0_0, 0, none⟩)] 39])) (L2 := (fun (s : Unit) (x : (Unit) × (Unit)) => [])) rfl (.s (.s (.s (.s .z)))) h25 (.t (.s (.s (.s .z)))) (.c (.t .z) .n) rfl (env1 h10 rfl rfl) (.s (.s .z)) rfl rfl (fun c hD hrn => ?_) (fun s37 x38 h39 => ?_) (fun _ _ _ => lStuck)
          · refine cEqC h11 ?_
            refine cRegion ?_
            refine lCh (cAlloc (cs := [.int .i64 0, .int .i64 0, vB 0]) zer_109 rfl) rfl rfl fun b29 => ?_
            refine lChU (uStoreA (us := [.int .i64 o26.f_Start, .int .i64 o26.f_Len, vB o26.f_Attr]) (cs' := [.int .i64 o26.f_Start, .int .i64 o26.f_Len, vB o26.f_Attr]) .z siz_109 rfl (by intro u hu; simp only [List.mem_cons, List.not_mem_nil, or_false] at hu; rcases hu with rfl | rfl | rfl <;> first | rfl | assumption) rfl (by simp) (.t .z) (.t (.s .z))) ?_
            refine lKeep (.k (.d (.d (.k (.d (.k .n)))))) ?_
            refine lNil ?_
            refine xBegin hrn (Upd.s (Upd.s (Upd.s Upd.z))) ?_
            refine cEqC h12 ?_
            refine cBlock ?_
            refine cSeq ?_
            refine cRegion ?_
            refine lRd (dFld fld_109_2 (by decide) (.t .z) rfl) rfl rfl ?_
            refine lRd (dLoad .z agg_5 (.t .z) rfl) rfl rfl ?_
            refine lCall fok_48 (.c (.t .z) .n) (attr_Modified_c o26.f_Attr) .n rfl rfl fun o30 x31 h32 => ?_
            refine lKeep (.k (.d (.d (.k (.k (.k .n)))))) ?_
            refine lNil ?_
            refine xCode ?_
            refine cCondB (.t .z) (fun h33 => ?_) (fun h33 => ?_)
            · refine cSeq ?_
              refine cRegion ?_
              refine lRd (dLoad (.s (.s (.s (.s (.s .z))))) agg_3 (.t (.s (.s .z))) rfl) rfl rfl ?_
              refine lRd (dAddI (.t .z) (.c rfl)) rfl rfl ?_
              refine lChU (uStore (.s (.s (.s (.s (.s .z))))) siz_3 rfl .z (.t (.s (.s (.s (.s .z))))) (.t .z)) ?_
              refine lKeep (.d (.d (.d (.k (.d (.k .n)))))) ?_
              refine lNil ?_
              refine xCode ?_
              refine cRegion ?_
              refine lRd (dLoad (.s (.s (.s (.s (.s (.s .z)))))) agg_39 (.t (.s .z)) rfl) rfl rfl ?_
              refine lRd (dFld fld_109_0 (by decide) (.t (.s .z)) rfl) rfl rfl ?_
              refine lRd (dLoad .z agg_3 (.t .z) rfl) rfl rfl ?_
              refine lCallN fok_49 (.c (.t (.s (.s .z))) (.c (.t .z) (.c (.c rfl) .n))) (field_modify_c (⟨(⟨s16.2.1, s16.2.2.1⟩ : api_Size), s16.2.2.2.1, s16.2.2.2.2.1⟩ : plane_Plane) o26.f_Start false b0_0 v0_1) (.c (.s .z) (.c (.s .z) .n)) rfl fun o34 x35 h36 => ?_
              refine lKeep .n ?_
              refine lNil ?_
              refine xBlock ?_
              exact xRound1 (o34.f_size.f_Rows, o34.f_size.f_Cols, o34.f_cells, o34.f_cursor, w64 (s16.2.2.2.2.2 + 1)) ((), ()) (Upd.s (Upd.s (Upd.s Upd.z))) (.c (.s (.s (.s .z))) (.c .z (.c .z (.c (.s .z) (.c (.s .z) (.c (.s .z) .nil))))))
            · refine cSkip ?_
              refine xBlock ?_
              exact xRound1 (s16.2.1, s16.2.2.1, s16.2.2.2.1, s16.2.2.2.2.1, s16.2.2.2.2.2) ((), ()) (Upd.s (Upd.s (Upd.s Upd.z))) (.c (.s (.s (.s .z))) (.c (.s .z) (.c (.s .z) (.c (.s .z) (.c (.s .z) (.c (.s .z) .nil))))))
          · refine lRdG rfl (.s (.s (.s (.s (.s .z))))) h25 (dNot (.t .z)) rfl rfl ?_
            refine lRd (dPickT (.t (.s (.s (.s (.s (.s (.s .z))))))) h25 (.t .z)) rfl rfl ?_
            refine lNil ?_
            refine xCode ?_
            refine cCondF (.t .z) rfl ?_
            refine cSkip ?_
            refine xBlock ?_
            refine xCode ?_
            refine cRegion ?_
            refine lRd (dAddI (.t (.s (.s (.s (.s (.s (.s (.s (.s (.s (.s (.s (.s (.s (.s (.s .z)))))))))))))))) (.c rfl)) rfl rfl ?_
            refine lRdK (dMove (.t .z)) (.k (.k (.k (.k (.k (.k (.k (.k (.k (.k (.k (.k (.k (.k (.k (.k (.d (Keep.refl _)))))))))))))))))) rfl rfl ?_
            refine lNil ?_
            exact xRound h20 (w64 (s16.1 + 1), s37.1, s37.2.1, s37.2.2.1, s37.2.2.2.1, s37.2.2.2.2) () (.c .z (.c (.s (.s (.s (.s (.s (.s (.s (.s (.s (.s (.s (.s (.s (.s (.s (.s (.s .z))))))))))))))))) (.c (.s (.s (.s (.s (.s (.s (.s (.s (.s (.s (.s (.s (.s (.s (.s (.s (.s (.s .z)))))))))))))))))) (.c (.s (.s (.s (.s (.s (.s (.s (.s (.s (.s (.s (.s (.s (.s (.s (.s (.s (.s (.s .z))))))))))))))))))) .n)))) (.c .z (.c .z (.c .z (.c .z (.c .z (.c .z .nil))))))
        · refine lPass rfl .z (nbT (Bool.eq_false_iff.mpr h25)) rfl ?_
          refine lPass rfl .z (nbT (Bool.eq_false_iff.mpr h25)) rfl ?_
          refine lPass rfl .z (nbT (Bool.eq_false_iff.mpr h25)) rfl ?_
          refine lPass rfl .z (nbT (Bool.eq_false_iff.mpr h25)) rfl ?_
          refine lPass rfl .z (nbT (Bool.eq_false_iff.mpr h25)) rfl ?_
          refine lPass rfl .z (nbT (Bool.eq_false_iff.mpr h25)) rfl ?_
          refine lRd (dPickF (.t .z) (Bool.eq_false_iff.mpr h25) (.c rfl)) rfl rfl ?_
          refine lNil ?_
          refine xCode ?_
          refine cCondF (.t .z) rfl ?_
          refine cSkip ?_
          refine xBlock ?_
          refine xCode ?_
          refine cRegion ?_
          refine lRd (dAddI (.t (.s (.s (.s (.s (.s (.s (.s (.s (.s .z)))))))))) (.c rfl)) rfl rfl ?_
          refine lRdK (dMove (.t .z)) (.k (.k (.k (.k (.k (.k (.k (.k (.k (.k (.d (Keep.refl _)))))))))))) rfl rfl ?_
          refine lNil ?_
          exact xRound h20 (w64 (s16.1 + 1), s16.2.1, s16.2.2.1, s16.2.2.2.1, s16.2.2.2.2.1, s16.2.2.2.2.2) () (.c .z (.c (.s (.s (.s (.s (.s (.s (.s (.s (.s (.s (.s .z))))))))))) (.c (.s (.s (.s (.s (.s (.s (.s (.s (.s (.s (.s (.s .z)))))))))))) (.c (.s (.s (.s (.s (.s (.s (.s (.s (.s (.s (.s (.s (.s .z))))))))))))) .n)))) (.c (.s (.s .z)) (.c .z (.c .z (.c .z (.c .z (.c .z .nil))))))
      · refine cExit ?_
        refine xOver ?_
        refine xOverF ?_
        exact xBreakR (s16.2.1, s16.2.2.1, s16.2.2.2.1, s16.2.2.2.2.1, s16.2.2.2.2.2) () .n (.c .z (.c .z (.c .z (.c .z (.c .z (.c .z .nil))))))
    · exact xDone (rs := []) rfl .n hD ((), ()) rfl (.c .z (.c .z (.c .z (.c .z (.c .z (.c .z .nil))))))
  · refine xBlock ?_
    refine xCode ?_
    refine cSeq ?_
    refine cRegion ?_
    refine lRd (dLoad (.s (.s (.s (.s .z)))) agg_3 (.t (.s .z)) rfl) rfl rfl ?_
    refine lRdK (dAssign (.t .z)) (.k (.k (.k (.d (Keep.refl _))))) rfl rfl ?_
    refine lKeep (.k .n) ?_
    refine lNil ?_
    refine xCode ?_
    refine cRet ?_
    refine rLeave (congrArg (List.cons _) hD) ?_
    refine lvMark Upd.z (by simp) ?_
    exact lvRet (rs := [.tmp 2]) rfl (.t .z .n) () rfl (.c (.s .z) (.c (.s .z) .nil))

-- (*greenscreen/paint.brush).next
def paint_brush_next_m (a0 : paint_brush) : Option (paint_brush) := (plane_Plane_Size_m a0.f_p).bind fun o1 => (addr_Move_m o1 a0.f_at 1).bind fun o4 => some (⟨a0.f_p, o4, a0.f_look, a0.f_laid⟩ : paint_brush)
theorem paint_brush_next_c (a0 : paint_brush) (b0_0 : Nat) (b0_1 : Nat) (v0_2 : Value) : Con Try.prog 100 #[.pointer (some ⟨b0_0, 0, none⟩)] [.blk b0_0 [.pointer (some ⟨b0_1, 0, none⟩), .int .i64 a0.f_at, vB a0.f_look.f_Byte, .bool a0.f_look.f_GE, .bool a0.f_look.f_Start, vB a0.f_look.f_Light, vB a0.f_look.f_Color, .bool a0.f_laid] 123, .blk b0_1 [.int .i64 a0.f_p.f_size.f_Rows, .int .i64 a0.f_p.f_size.f_Cols, v0_2, .int .i64 a0.f_p.f_cursor] 66, .own v0_2 44 k_api_Cell a0.f_p.f_cells] (paint_brush_next_m a0) (fun (o : paint_brush) (x : Unit) => .tuple #[]) (fun (o : paint_brush) (x : Unit) => [.blk b0_0 [.pointer (some ⟨b0_1, 0, none⟩), .int .i64 o.f_at, vB o.f_look.f_Byte, .bool o.f_look.f_GE, .bool o.f_look.f_Start, vB o.f_look.f_Light, vB o.f_look.f_Color, .bool o.f_laid] 123, .blk b0_1 [.int .i64 o.f_p.f_size.f_Rows, .int .i64 o.f_p.f_size.f_Cols, v0_2, .int .i64 o.f_p.f_cursor] 66, .own v0_2 44 k_api_Cell o.f_p.f_cells]) := by
  unfold paint_brush_next_m
  refine con (args := [.pointer (some ⟨b0_0, 0, none⟩)]) Try.func100 rfl 15 rfl (.c .n) rfl fun c hD hrn => ?_
  refine cRegionM [13] [(0, .early), (1, .early), (2, .early), (3, .early), (4, .early), (5, .early), (6, .early), (7, .early), (8, .early), (9, .early), (10, .early), (11, .early), (12, .early), (13, .only)] mixed (by kernel_rfl) (.c (.s .z) (.c (.s .z) (.c .z .nil))) (.c (.c .n)) ?_
  refine mRd rfl rfl (fun _ _ _ => dMove (.t .z)) rfl rfl ?_
  refine mRd rfl rfl (fun _ _ _ => dMove (.t (.s .z))) rfl rfl ?_
  refine mRd rfl rfl (fun _ _ _ => dNil (.t .z)) rfl rfl ?_
  refine mRd rfl rfl (fun _ _ _ => dFld fld_123_0 (by decide) (.t .z) rfl) rfl rfl ?_
  refine mRd rfl rfl (fun _ _ _ => dLoad (.s (.s .z)) agg_39 (.t .z) rfl) rfl rfl ?_
  refine mCallQ rfl rfl fok_10 (.c (.t .z) .n) (plane_Plane_Size_c a0.f_p b0_1 v0_2) (.c .z (.c .z .n)) (fun _ _ => rfl) (fun _ _ => (.c .z (.c .z (.c .z .nil)))) rfl rfl fun o1 h3 => ?_
  refine mRd rfl rfl (fun _ _ _ => dMove (.t (.s (.s (.s (.s (.s (.s .z)))))))) rfl rfl ?_
  refine mRd rfl rfl (fun _ _ _ => dNil (.t .z)) rfl rfl ?_
  refine mRd rfl rfl (fun _ _ _ => dFld fld_123_1 (by decide) (.t .z) rfl) rfl rfl ?_
  refine mRd rfl rfl (fun _ _ _ => dLoad (.s (.s .z)) agg_3 (.t .z) rfl) rfl rfl ?_
  refine mCallQ rfl rfl fok_74 (.c (.t (.s (.s (.s (.s .z))))) (.c (.t .z) (.c (.c rfl) .n))) (addr_Move_c o1 a0.f_at 1) .n (fun _ _ => rfl) (fun _ _ => (.c .z (.c .z (.c .z .nil)))) rfl rfl fun o4 h6 => ?_
  refine mRd rfl rfl (fun _ _ _ => dNil (.t (.s (.s (.s (.s (.s (.s (.s (.s (.s (.s .z)))))))))))) rfl rfl ?_
  refine mRd rfl rfl (fun _ _ _ => dFld fld_123_1 (by decide) (.t .z) rfl) rfl rfl ?_
  refine mChU rfl rfl (uStore (.s (.s .z)) siz_3 rfl (.s .z) (.t .z) (.t (.s (.s .z)))) (.c .z (.c .z (.c .z .nil))) (.c (.c .n)) ?_
  refine mKeep .n ?_
  refine mNil ?_
  refine xLeave hD ?_
  exact lvRet (rs := []) rfl .n () rfl (.c (.s (.s .z)) (.c .z (.c .z .nil)))

-- (*greenscreen/paint.brush).lay
def paint_brush_lay_m (a0 : paint_brush) (a1 : api_Cell) : Option (paint_brush) := (plane_Plane_Set_m a0.f_p a0.f_at a1).bind fun o2 => (paint_brush_next_m (⟨o2.1, a0.f_at, a0.f_look, a0.f_laid⟩ : paint_brush)).bind fun o5 => some o5
theorem paint_brush_lay_c (a0 : paint_brush) (a1 : api_Cell) (b0_0 : Nat) (b0_1 : Nat) (v0_2 : Value) : Con Try.prog 94 #[.pointer (some ⟨b0_0, 0, none⟩), .agg #[vB a1.f_Byte, .bool a1.f_GE, .bool a1.f_Start, vB a1.f_Light, vB a1.f_Color]] [.blk b0_0 [.pointer (some ⟨b0_1, 0, none⟩), .int .i64 a0.f_at, vB a0.f_look.f_Byte, .bool a0.f_look.f_GE, .bool a0.f_look.f_Start, vB a0.f_look.f_Light, vB a0.f_look.f_Color, .bool a0.f_laid] 123, .blk b0_1 [.int .i64 a0.f_p.f_size.f_Rows, .int .i64 a0.f_p.f_size.f_Cols, v0_2, .int .i64 a0.f_p.f_cursor] 66, .own v0_2 44 k_api_Cell a0.f_p.f_cells] (paint_brush_lay_m a0 a1) (fun (o : paint_brush) (x : Unit) => .tuple #[]) (fun (o : paint_brush) (x : Unit) => [.blk b0_0 [.pointer (some ⟨b0_1, 0, none⟩), .int .i64 o.f_at, vB o.f_look.f_Byte, .bool o.f_look.f_GE, .bool o.f_look.f_Start, vB o.f_look.f_Light, vB o.f_look.f_Color, .bool o.f_laid] 123, .blk b0_1 [.int .i64 o.f_p.f_size.f_Rows, .int .i64 o.f_p.f_size.f_Cols, v0_2, .int .i64 o.f_p.f_cursor] 66, .own v0_2 44 k_api_Cell o.f_p.f_cells]) := by
  unfold paint_brush_lay_m
  refine con (args := [.pointer (some ⟨b0_0, 0, none⟩), .agg #[vB a1.f_Byte, .bool a1.f_GE, .bool a1.f_Start, vB a1.f_Light, vB a1.f_Color]]) Try.func94 rfl 16 rfl (.c (.c .n)) rfl fun c hD hrn => ?_
  refine cSeq ?_
  refine cRegion ?_
  refine lCh (cBox (cs := [vB a1.f_Byte, .bool a1.f_GE, .bool a1.f_Start, vB a1.f_Light, vB a1.f_Color]) (.t (.s .z)) rfl) rfl rfl fun b1 => ?_
  refine lKeep (.k (.k .n)) ?_
  refine lNil ?_
  refine xCode ?_
  refine cSeq ?_
  refine cRegionM [9] [(0, .early), (1, .early), (2, .early), (3, .early), (4, .early), (5, .early), (6, .early), (7, .early), (8, .early), (9, .only)] mixed (by kernel_rfl) (.c .z (.c .z (.c .z (.c .z .nil)))) (.c (.c .n)) ?_
  refine mRd rfl rfl (fun _ _ _ => dMove (.t (.s .z))) rfl rfl ?_
  refine mRd rfl rfl (fun _ _ _ => dNil (.t .z)) rfl rfl ?_
  refine mRd rfl rfl (fun _ _ _ => dFld fld_123_0 (by decide) (.t .z) rfl) rfl rfl ?_
  refine mRd rfl rfl (fun _ _ _ => dLoad (.s .z) agg_39 (.t .z) rfl) rfl rfl ?_
  refine mRd rfl rfl (fun _ _ _ => dMove (.t (.s (.s (.s (.s (.s .z))))))) rfl rfl ?_
  refine mRd rfl rfl (fun _ _ _ => dNil (.t .z)) rfl rfl ?_
  refine mRd rfl rfl (fun _ _ _ => dFld fld_123_1 (by decide) (.t .z) rfl) rfl rfl ?_
  refine mRd rfl rfl (fun _ _ _ => dLoad (.s .z) agg_3 (.t .z) rfl) rfl rfl ?_
  refine mRd rfl rfl (fun _ _ _ => dLoadA (us := [vB a1.f_Byte, .bool a1.f_GE, .bool a1.f_Start, vB a1.f_Light, vB a1.f_Color]) .z agg_44 siz_44 rfl (.t (.s (.s (.s (.s (.s (.s (.s (.s .z))))))))) rfl) rfl rfl ?_
  refine mCallN rfl rfl fok_54 (.c (.t (.s (.s (.s (.s (.s .z)))))) (.c (.t (.s .z)) (.c (.t .z) .n))) (plane_Plane_Set_c a0.f_p a0.f_at a1 b0_1 v0_2) (.c (.s (.s .z)) (.c (.s (.s .z)) .n)) (fun o2 x3 => (.c (.s (.s .z)) (.c (.s (.s .z)) (.c .z (.c .z .nil))))) (fun _ _ => (.c (.c .n))) rfl fun o2 x3 h4  => ?_
  refine mKeep (.d (.d (.d (.d (.d (.d (.d (.d (.d (.d (.k .n))))))))))) ?_
  refine mNil ?_
  refine xCode ?_
  refine cRegion ?_
  refine lRd (dMove (.t .z)) rfl rfl ?_
  refine lCallN fok_100 (.c (.t .z) .n) (paint_brush_next_c (⟨o2.1, a0.f_at, a0.f_look, a0.f_laid⟩ : paint_brush) b0_0 b0_1 v0_2) (.c (.s .z) (.c (.s .z) (.c (.s .z) .n))) rfl fun o5 x6 h7 => ?_
  refine lKeep .n ?_
  refine lNil ?_
  refine xLeave hD ?_
  exact lvRet (rs := []) rfl .n () rfl (.c .z (.c .z (.c .z .nil)))

-- (*greenscreen/paint.brush).char
def paint_brush_char_m (a0 : paint_brush) (a1 : UInt8) (a2 : Bool) : Option (api_Cell) := some (⟨a1, a2, false, a0.f_look.f_Light, a0.f_look.f_Color⟩ : api_Cell)
theorem paint_brush_char_c (a0 : paint_brush) (a1 : UInt8) (a2 : Bool) (b0_0 : Nat) (b0_1 : Nat) (v0_2 : Value) : Con Try.prog 95 #[.pointer (some ⟨b0_0, 0, none⟩), vB a1, .bool a2] [.blk b0_0 [.pointer (some ⟨b0_1, 0, none⟩), .int .i64 a0.f_at, vB a0.f_look.f_Byte, .bool a0.f_look.f_GE, .bool a0.f_look.f_Start, vB a0.f_look.f_Light, vB a0.f_look.f_Color, .bool a0.f_laid] 123, .blk b0_1 [.int .i64 a0.f_p.f_size.f_Rows, .int .i64 a0.f_p.f_size.f_Cols, v0_2, .int .i64 a0.f_p.f_cursor] 66, .own v0_2 44 k_api_Cell a0.f_p.f_cells] (paint_brush_char_m a0 a1 a2) (fun (o : api_Cell) (x : Unit) => .agg #[vB o.f_Byte, .bool o.f_GE, .bool o.f_Start, vB o.f_Light, vB o.f_Color]) (fun (o : api_Cell) (x : Unit) => [.blk b0_0 [.pointer (some ⟨b0_1, 0, none⟩), .int .i64 a0.f_at, vB a0.f_look.f_Byte, .bool a0.f_look.f_GE, .bool a0.f_look.f_Start, vB a0.f_look.f_Light, vB a0.f_look.f_Color, .bool a0.f_laid] 123, .blk b0_1 [.int .i64 a0.f_p.f_size.f_Rows, .int .i64 a0.f_p.f_size.f_Cols, v0_2, .int .i64 a0.f_p.f_cursor] 66, .own v0_2 44 k_api_Cell a0.f_p.f_cells]) := by
  unfold paint_brush_char_m
  refine con (args := [.pointer (some ⟨b0_0, 0, none⟩), vB a1, .bool a2]) Try.func95 rfl 20 rfl (.c (.c (.c .n))) rfl fun c hD hrn => ?_
  refine cSeq ?_
  refine cRegion ?_
  refine lCh (cAlloc (cs := [vB 0, .bool false, .bool false, vB 0, vB 0]) zer_44 rfl) rfl rfl fun b1 => ?_
  refine lNil ?_
  refine xCode ?_
  refine cSeq ?_
  refine cRegionM [13] [(0, .early), (1, .early), (2, .early), (3, .early), (4, .early), (5, .early), (6, .early), (7, .early), (8, .early), (9, .early), (10, .early), (11, .early), (12, .early), (13, .only)] mixed (by kernel_rfl) (.c (.s .z) (.c (.s .z) (.c (.s .z) (.c .z .nil)))) (.c (.c (.c .n))) ?_
  refine mRd rfl rfl (fun _ _ _ => dMove (.t (.s (.s .z)))) rfl rfl ?_
  refine mRd rfl rfl (fun _ _ _ => dMove (.t (.s (.s (.s (.s .z)))))) rfl rfl ?_
  refine mRd rfl rfl (fun _ _ _ => dMove (.t (.s (.s (.s .z))))) rfl rfl ?_
  refine mRd rfl rfl (fun _ _ _ => dNil (.t .z)) rfl rfl ?_
  refine mRd rfl rfl (fun _ _ _ => dFld fld_123_2 (by decide) (.t .z) rfl) rfl rfl ?_
  refine mRd rfl rfl (fun _ _ _ => dFld fld_44_3 (by decide) (.t .z) rfl) rfl rfl ?_
  refine mRd rfl rfl (fun _ _ _ => dLoad .z agg_5 (.t .z) rfl) rfl rfl ?_
  refine mRd rfl rfl (fun _ _ _ => dMove (.t (.s (.s (.s (.s (.s (.s (.s (.s .z)))))))))) rfl rfl ?_
  refine mRd rfl rfl (fun _ _ _ => dNil (.t .z)) rfl rfl ?_
  refine mRd rfl rfl (fun _ _ _ => dFld fld_123_2 (by decide) (.t .z) rfl) rfl rfl ?_
  refine mRd rfl rfl (fun _ _ _ => dFld fld_44_4 (by decide) (.t .z) rfl) rfl rfl ?_
  refine mRd rfl rfl (fun _ _ _ => dLoad .z agg_5 (.t .z) rfl) rfl rfl ?_
  refine mRd rfl rfl (fun _ _ _ => dBuild (cs := [vB a1, .bool a2, .bool false, vB a0.f_look.f_Light, vB a0.f_look.f_Color]) zer_44 rfl plc_44 (.c (.t (.s (.s (.s (.s (.s (.s (.s (.s (.s (.s (.s .z)))))))))))) (.c (.t (.s (.s (.s (.s (.s (.s (.s (.s (.s (.s .z))))))))))) (.c (.t (.s (.s (.s (.s (.s .z)))))) (.c (.t .z) .n)))) rfl) rfl rfl ?_
  refine mChU rfl rfl (uStoreA (us := [vB a1, .bool a2, .bool false, vB a0.f_look.f_Light, vB a0.f_look.f_Color]) (cs' := [vB a1, .bool a2, .bool false, vB a0.f_look.f_Light, vB a0.f_look.f_Color]) (.s (.s (.s .z))) siz_44 rfl (by intro u hu; simp only [List.mem_cons, List.not_mem_nil, or_false] at hu; rcases hu with rfl | rfl | rfl | rfl | rfl <;> first | rfl | assumption) rfl (by simp) (.t (.s (.s (.s (.s (.s (.s (.s (.s (.s (.s (.s (.s (.s .z)))))))))))))) (.t .z)) (.c .z (.c .z (.c .z (.c .z .nil)))) (.c (.c (.c .n))) ?_
  refine mKeep (.d (.d (.d (.d (.d (.d (.d (.d (.d (.d (.d (.d (.d (.k .n)))))))))))))) ?_
  refine mNil ?_
  refine xCode ?_
  refine cRet ?_
  refine rLeave hD ?_
  exact lvRet (rs := [.cell 6 44]) rfl (.a .z (.s (.s (.s .z))) agg_44 siz_44 .n) () rfl (.c .z (.c .z (.c .z .nil)))

-- (*greenscreen/paint.brush).data
def paint_brush_data_l1 (K : Nat) (a1 : api_Order) : Nat → (Int × Int × UInt8 × Bool × Bool × UInt8 × UInt8 × Bool × Int × Int × (List api_Cell) × Int) → Option (Int × UInt8 × Bool × Bool × UInt8 × UInt8 × Bool × Int × Int × (List api_Cell) × Int)
  | 0, _ => none
  | n + 1, s2 => (if s2.1 < (a1.f_Data.length : Int) then (ix a1.f_Data s2.1).bind fun y8 => (paint_brush_char_m (⟨(⟨(⟨s2.2.2.2.2.2.2.2.2.1, s2.2.2.2.2.2.2.2.2.2.1⟩ : api_Size), s2.2.2.2.2.2.2.2.2.2.2.1, s2.2.2.2.2.2.2.2.2.2.2.2⟩ : plane_Plane), s2.2.1, (⟨s2.2.2.1, s2.2.2.2.1, s2.2.2.2.2.1, s2.2.2.2.2.2.1, s2.2.2.2.2.2.2.1⟩ : api_Cell), s2.2.2.2.2.2.2.2.1⟩ : paint_brush) y8 false).bind fun o11 => (paint_brush_lay_m (⟨(⟨(⟨s2.2.2.2.2.2.2.2.2.1, s2.2.2.2.2.2.2.2.2.2.1⟩ : api_Size), s2.2.2.2.2.2.2.2.2.2.2.1, s2.2.2.2.2.2.2.2.2.2.2.2⟩ : plane_Plane), s2.2.1, (⟨s2.2.2.1, s2.2.2.2.1, s2.2.2.2.2.1, s2.2.2.2.2.2.1, s2.2.2.2.2.2.2.1⟩ : api_Cell), s2.2.2.2.2.2.2.2.1⟩ : paint_brush) o11).bind fun o14 => (paint_brush_data_l1 K a1 n) (w64 (s2.1 + 1), o14.f_at, o14.f_look.f_Byte, o14.f_look.f_GE, o14.f_look.f_Start, o14.f_look.f_Light, o14.f_look.f_Color, o14.f_laid, o14.f_p.f_size.f_Rows, o14.f_p.f_size.f_Cols, o14.f_p.f_cells, o14.f_p.f_cursor) else some (s2.2.1, s2.2.2.1, s2.2.2.2.1, s2.2.2.2.2.1, s2.2.2.2.2.2.1, s2.2.2.2.2.2.2.1, s2.2.2.2.2.2.2.2.1, s2.2.2.2.2.2.2.2.2.1, s2.2.2.2.2.2.2.2.2.2.1, s2.2.2.2.2.2.2.2.2.2.2.1, s2.2.2.2.2.2.2.2.2.2.2.2))
def paint_brush_data_m (K : Nat) (a0 : paint_brush) (a1 : api_Order) : Option (paint_brush × Int) := (paint_brush_data_l1 K a1 K (0, a0.f_at, a0.f_look.f_Byte, a0.f_look.f_GE, a0.f_look.f_Start, a0.f_look.f_Light, a0.f_look.f_Color, a0.f_laid, a0.f_p.f_size.f_Rows, a0.f_p.f_size.f_Cols, a0.f_p.f_cells, a0.f_p.f_cursor)).bind fun (s17 : Int × UInt8 × Bool × Bool × UInt8 × UInt8 × Bool × Int × Int × (List api_Cell) × Int) => some ((⟨(⟨(⟨s17.2.2.2.2.2.2.2.1, s17.2.2.2.2.2.2.2.2.1⟩ : api_Size), s17.2.2.2.2.2.2.2.2.2.1, s17.2.2.2.2.2.2.2.2.2.2⟩ : plane_Plane), s17.1, (⟨s17.2.1, s17.2.2.1, s17.2.2.2.1, s17.2.2.2.2.1, s17.2.2.2.2.2.1⟩ : api_Cell), s17.2.2.2.2.2.2.1⟩ : paint_brush), 0)
theorem paint_brush_data_c (K : Nat) (a0 : paint_brush) (a1 : api_Order) (b0_0 : Nat) (b0_1 : Nat) (v0_2 : Value) (v1_0 : Value) (v1_1 : Value) : Con Try.prog 81 #[.pointer (some ⟨b0_0, 0, none⟩), .agg #[vB a1.f_Kind, .int .i64 a1.f_Addr, vB a1.f_Byte, .bool a1.f_GE, v1_0, v1_1]] [.blk b0_0 [.pointer (some ⟨b0_1, 0, none⟩), .int .i64 a0.f_at, vB a0.f_look.f_Byte, .bool a0.f_look.f_GE, .bool a0.f_look.f_Start, vB a0.f_look.f_Light, vB a0.f_look.f_Color, .bool a0.f_laid] 123, .blk b0_1 [.int .i64 a0.f_p.f_size.f_Rows, .int .i64 a0.f_p.f_size.f_Cols, v0_2, .int .i64 a0.f_p.f_cursor] 66, .own v0_2 44 k_api_Cell a0.f_p.f_cells, .ro (kSl k_api_Pair) [v1_0] a1.f_Pairs, .ro (kSl kB) [v1_1] a1.f_Data] (paint_brush_data_m K a0 a1) (fun (o : paint_brush × Int) (x : Unit) => .int .i64 o.2) (fun (o : paint_brush × Int) (x : Unit) => [.blk b0_0 [.pointer (some ⟨b0_1, 0, none⟩), .int .i64 o.1.f_at, vB o.1.f_look.f_Byte, .bool o.1.f_look.f_GE, .bool o.1.f_look.f_Start, vB o.1.f_look.f_Light, vB o.1.f_look.f_Color, .bool o.1.f_laid] 123, .blk b0_1 [.int .i64 o.1.f_p.f_size.f_Rows, .int .i64 o.1.f_p.f_size.f_Cols, v0_2, .int .i64 o.1.f_p.f_cursor] 66, .own v0_2 44 k_api_Cell o.1.f_p.f_cells]) := by
  unfold paint_brush_data_m
  refine con (args := [.pointer (some ⟨b0_0, 0, none⟩), .agg #[vB a1.f_Kind, .int .i64 a1.f_Addr, vB a1.f_Byte, .bool a1.f_GE, v1_0, v1_1]]) Try.func81 rfl 20 rfl (.c (.c .n)) rfl fun c hD hrn => ?_
  refine cSeq ?_
  refine cRegion ?_
  refine lCh (cBox (cs := [vB a1.f_Kind, .int .i64 a1.f_Addr, vB a1.f_Byte, .bool a1.f_GE, v1_0, v1_1]) (.t (.s .z)) rfl) rfl rfl fun b1 => ?_
  refine lRd (dAssign (.c rfl)) rfl rfl ?_
  refine lKeep (.k (.k (.k .n))) ?_
  refine lNil ?_
  refine xCode ?_
  refine cSeq ?_
  refine cSeq ?_
  refine cRegion ?_
  refine lRd (dFld fld_97_5 (by decide) (.t (.s .z)) rfl) rfl rfl ?_
  refine lRd (dLoad .z agg_34 (.t .z) rfl) rfl rfl ?_
  refine lRd (dLen (at_ := #[34]) (slRo (.s (.s (.s (.s (.s .z)))))) rfl und_34 (.t .z)) rfl rfl ?_
  refine lRd (dMove (.c rfl)) rfl rfl ?_
  refine lKeep (.k (.k (.k (.d (.k (.d (.k .n))))))) ?_
  refine lNil ?_
  refine xCode ?_
  refine cLoopB (S := Int × Int × UInt8 × Bool × Bool × UInt8 × UInt8 × Bool × Int × Int × (List api_Cell) × Int) (X := Unit) (S' := Int × UInt8 × Bool × Bool × UInt8 × UInt8 × Bool × Int × Int × (List api_Cell) × Int) (X' := Unit) (paint_brush_data_l1 K a1) (fun (s : Int × Int × UInt8 × Bool × Bool × UInt8 × UInt8 × Bool × Int × Int × (List api_Cell) × Int) (x : Unit) => [(10, .int .i64 s.1), (9, .int .i64 (a1.f_Data.length : Int)), (8, v1_1), (4, .int .i64 0), (0, .pointer (some ⟨b0_0, 0, none⟩))]) (fun (s : Int × Int × UInt8 × Bool × Bool × UInt8 × UInt8 × Bool × Int × Int × (List api_Cell) × Int) (x : Unit) => [.blk b1 [vB a1.f_Kind, .int .i64 a1.f_Addr, vB a1.f_Byte, .bool a1.f_GE, v1_0, v1_1] 97, .blk b0_0 [.pointer (some ⟨b0_1, 0, none⟩), .int .i64 s.2.1, vB s.2.2.1, .bool s.2.2.2.1, .bool s.2.2.2.2.1, vB s.2.2.2.2.2.1, vB s.2.2.2.2.2.2.1, .bool s.2.2.2.2.2.2.2.1] 123, .blk b0_1 [.int .i64 s.2.2.2.2.2.2.2.2.1, .int .i64 s.2.2.2.2.2.2.2.2.2.1, v0_2, .int .i64 s.2.2.2.2.2.2.2.2.2.2.2] 66, .own v0_2 44 k_api_Cell s.2.2.2.2.2.2.2.2.2.2.1, .ro (kSl k_api_Pair) [v1_0] a1.f_Pairs, .ro (kSl kB) [v1_1] a1.f_Data]) (fun (s : Int × UInt8 × Bool × Bool × UInt8 × UInt8 × Bool × Int × Int × (List api_Cell) × Int) (x : Unit) => [(4, .int .i64 0)]) (fun (s : Int × UInt8 × Bool × Bool × UInt8 × UInt8 × Bool × Int × Int × (List api_Cell) × Int) (x : Unit) => [.blk b1 [vB a1.f_Kind, .int .i64 a1.f_Addr, vB a1.f_Byte, .bool a1.f_GE, v1_0, v1_1] 97, .blk b0_0 [.pointer (some ⟨b0_1, 0, none⟩), .int .i64 s.1, vB s.2.1, .bool s.2.2.1, .bool s.2.2.2.1, vB s.2.2.2.2.1, vB s.2.2.2.2.2.1, .bool s.2.2.2.2.2.2.1] 123, .blk b0_1 [.int .i64 s.2.2.2.2.2.2.2.1, .int .i64 s.2.2.2.2.2.2.2.2.1, v0_2, .int .i64 s.2.2.2.2.2.2.2.2.2.2] 66, .own v0_2 44 k_api_Cell s.2.2.2.2.2.2.2.2.2.1, .ro (kSl k_api_Pair) [v1_0] a1.f_Pairs, .ro (kSl kB) [v1_1] a1.f_Data]) K (0, a0.f_at, a0.f_look.f_Byte, a0.f_look.f_GE, a0.f_look.f_Start, a0.f_look.f_Light, a0.f_look.f_Color, a0.f_laid, a0.f_p.f_size.f_Rows, a0.f_p.f_size.f_Cols, a0.f_p.f_cells, a0.f_p.f_cursor) () (.c .z (.c (.s .z) (.c (.s (.s .z)) (.c (.s (.s (.s .z))) (.c (.s (.s (.s (.s .z)))) .n))))) (.c .z (.c .z (.c .z (.c .z (.c .z (.c .z .nil)))))) (fun _ => rfl) (fun n4 I5 h6 s2 x3 => ?_) (fun s17 x18 => ?_)
  · rw [paint_brush_data_l1]
    refine cSeq ?_
    refine cRegion ?_
    refine lRd (dLt (.t .z) (.t (.s .z))) rfl rfl ?_
    refine lNil ?_
    refine xCode ?_
    refine cSeq ?_
    refine cCond (.t .z) (fun h7 => ?_) (fun h7 => ?_)
    · refine cSkip ?_
      refine xCode ?_
      refine cSeq ?_
      refine cBlock ?_
      refine cSeq ?_
      refine cRegion ?_
      refine lIx fun y8 h9 h10 => ?_
      refine lRd (dIxAddr (slRo (.s (.s (.s (.s (.s .z)))))) und_34 siz_5 (.t (.s (.s (.s .z)))) (.t (.s .z)) h9 h10) rfl rfl ?_
      refine lRd (dLoadE (slRo (.s (.s (.s (.s (.s .z)))))) agg_5 (.t .z) h10 (fun _ _ h => by cases h; rfl)) rfl rfl ?_
      refine lRd (dAssign (.t .z)) rfl rfl ?_
      refine lNil ?_
      refine xCode ?_
      refine cRegion ?_
      refine lRd (dMove (.t (.s (.s (.s (.s (.s (.s (.s (.s .z)))))))))) rfl rfl ?_
      refine lRd (dMove (.t (.s (.s (.s (.s (.s (.s (.s (.s (.s .z))))))))))) rfl rfl ?_
      refine lRd (dMove (.t (.s (.s .z)))) rfl rfl ?_
      refine lCall fok_95 (.c (.t (.s .z)) (.c (.t .z) (.c (.c rfl) .n))) (paint_brush_char_c (⟨(⟨(⟨s2.2.2.2.2.2.2.2.2.1, s2.2.2.2.2.2.2.2.2.2.1⟩ : api_Size), s2.2.2.2.2.2.2.2.2.2.2.1, s2.2.2.2.2.2.2.2.2.2.2.2⟩ : plane_Plane), s2.2.1, (⟨s2.2.2.1, s2.2.2.2.1, s2.2.2.2.2.1, s2.2.2.2.2.2.1, s2.2.2.2.2.2.2.1⟩ : api_Cell), s2.2.2.2.2.2.2.2.1⟩ : paint_brush) y8 false b0_0 b0_1 v0_2) (.c (.s .z) (.c (.s .z) (.c (.s .z) .n))) rfl rfl fun o11 x12 h13 => ?_
      refine lCallN fok_94 (.c (.t (.s (.s (.s .z)))) (.c (.t .z) .n)) (paint_brush_lay_c (⟨(⟨(⟨s2.2.2.2.2.2.2.2.2.1, s2.2.2.2.2.2.2.2.2.2.1⟩ : api_Size), s2.2.2.2.2.2.2.2.2.2.2.1, s2.2.2.2.2.2.2.2.2.2.2.2⟩ : plane_Plane), s2.2.1, (⟨s2.2.2.1, s2.2.2.2.1, s2.2.2.2.2.1, s2.2.2.2.2.2.1, s2.2.2.2.2.2.2.1⟩ : api_Cell), s2.2.2.2.2.2.2.2.1⟩ : paint_brush) o11 b0_0 b0_1 v0_2) (.c .z (.c .z (.c .z .n))) rfl fun o14 x15 h16 => ?_
      refine lNil ?_
      refine xBlock ?_
      refine xCode ?_
      refine cRegion ?_
      refine lRd (dAddI (.t (.s (.s (.s (.s (.s (.s (.s (.s .z))))))))) (.c rfl)) rfl rfl ?_
      refine lRdK (dMove (.t .z)) (.k (.k (.k (.k (.k (.k (.k (.k (.k (.d (Keep.refl _))))))))))) rfl rfl ?_
      refine lNil ?_
      exact xRound h6 (w64 (s2.1 + 1), o14.f_at, o14.f_look.f_Byte, o14.f_look.f_GE, o14.f_look.f_Start, o14.f_look.f_Light, o14.f_look.f_Color, o14.f_laid, o14.f_p.f_size.f_Rows, o14.f_p.f_size.f_Cols, o14.f_p.f_cells, o14.f_p.f_cursor) () (.c .z (.c (.s (.s (.s (.s (.s (.s (.s (.s (.s (.s .z)))))))))) (.c (.s (.s (.s (.s (.s (.s (.s (.s (.s (.s (.s .z))))))))))) (.c (.s (.s (.s (.s (.s (.s (.s (.s (.s (.s (.s (.s .z)))))))))))) (.c (.s (.s (.s (.s (.s (.s (.s (.s (.s (.s (.s (.s (.s .z))))))))))))) .n))))) (.c (.s (.s (.s .z))) (.c .z (.c .z (.c .z (.c .z (.c .z .nil))))))
    · refine cExit ?_
      refine xOver ?_
      refine xOverF ?_
      exact xJoin (s2.2.1, s2.2.2.1, s2.2.2.2.1, s2.2.2.2.2.1, s2.2.2.2.2.2.1, s2.2.2.2.2.2.2.1, s2.2.2.2.2.2.2.2.1, s2.2.2.2.2.2.2.2.2.1, s2.2.2.2.2.2.2.2.2.2.1, s2.2.2.2.2.2.2.2.2.2.2.1, s2.2.2.2.2.2.2.2.2.2.2.2) () (.c (.s (.s (.s (.s .z)))) .n) (.c .z (.c .z (.c .z (.c .z (.c .z (.c .z .nil))))))
  · refine xCode ?_
    refine cSeq ?_
    refine cRegion ?_
    refine lRdK (dAssign (.c rfl)) (.d (Keep.refl _)) rfl rfl ?_
    refine lNil ?_
    refine xCode ?_
    refine cRet ?_
    refine rLeave hD ?_
    exact lvRet (rs := [.tmp 4]) rfl (.t .z .n) () rfl (.c (.s .z) (.c (.s .z) (.c (.s .z) .nil)))

-- (*greenscreen/paint.brush).special
def paint_brush_special_m (a0 : paint_brush) (a1 : api_Order) : Option (paint_brush × Int) := (paint_brush_char_m a0 a1.f_Byte true).bind fun o2 => (paint_brush_lay_m a0 o2).bind fun o5 => some (o5, 0)
theorem paint_brush_special_c (a0 : paint_brush) (a1 : api_Order) (b0_0 : Nat) (b0_1 : Nat) (v0_2 : Value) (v1_0 : Value) (v1_1 : Value) : Con Try.prog 82 #[.pointer (some ⟨b0_0, 0, none⟩), .agg #[vB a1.f_Kind, .int .i64 a1.f_Addr, vB a1.f_Byte, .bool a1.f_GE, v1_0, v1_1]] [.blk b0_0 [.pointer (some ⟨b0_1, 0, none⟩), .int .i64 a0.f_at, vB a0.f_look.f_Byte, .bool a0.f_look.f_GE, .bool a0.f_look.f_Start, vB a0.f_look.f_Light, vB a0.f_look.f_Color, .bool a0.f_laid] 123, .blk b0_1 [.int .i64 a0.f_p.f_size.f_Rows, .int .i64 a0.f_p.f_size.f_Cols, v0_2, .int .i64 a0.f_p.f_cursor] 66, .own v0_2 44 k_api_Cell a0.f_p.f_cells, .ro (kSl k_api_Pair) [v1_0] a1.f_Pairs, .ro (kSl kB) [v1_1] a1.f_Data] (paint_brush_special_m a0 a1) (fun (o : paint_brush × Int) (x : Unit) => .int .i64 o.2) (fun (o : paint_brush × Int) (x : Unit) => [.blk b0_0 [.pointer (some ⟨b0_1, 0, none⟩), .int .i64 o.1.f_at, vB o.1.f_look.f_Byte, .bool o.1.f_look.f_GE, .bool o.1.f_look.f_Start, vB o.1.f_look.f_Light, vB o.1.f_look.f_Color, .bool o.1.f_laid] 123, .blk b0_1 [.int .i64 o.1.f_p.f_size.f_Rows, .int .i64 o.1.f_p.f_size.f_Cols, v0_2, .int .i64 o.1.f_p.f_cursor] 66, .own v0_2 44 k_api_Cell o.1.f_p.f_cells]) := by
  unfold paint_brush_special_m
  refine con (args := [.pointer (some ⟨b0_0, 0, none⟩), .agg #[vB a1.f_Kind, .int .i64 a1.f_Addr, vB a1.f_Byte, .bool a1.f_GE, v1_0, v1_1]]) Try.func82 rfl 11 rfl (.c (.c .n)) rfl fun c hD hrn => ?_
  refine cSeq ?_
  refine cRegion ?_
  refine lCh (cBox (cs := [vB a1.f_Kind, .int .i64 a1.f_Addr, vB a1.f_Byte, .bool a1.f_GE, v1_0, v1_1]) (.t (.s .z)) rfl) rfl rfl fun b1 => ?_
  refine lRd (dAssign (.c rfl)) rfl rfl ?_
  refine lKeep (.k (.k (.k .n))) ?_
  refine lNil ?_
  refine xCode ?_
  refine cSeq ?_
  refine cRegion ?_
  refine lRd (dMove (.t (.s (.s .z)))) rfl rfl ?_
  refine lRd (dMove (.t (.s (.s (.s .z))))) rfl rfl ?_
  refine lRd (dFld fld_97_2 (by decide) (.t (.s (.s (.s .z)))) rfl) rfl rfl ?_
  refine lRd (dLoad .z agg_5 (.t .z) rfl) rfl rfl ?_
  refine lCall fok_95 (.c (.t (.s (.s .z))) (.c (.t .z) (.c (.c rfl) .n))) (paint_brush_char_c a0 a1.f_Byte true b0_0 b0_1 v0_2) (.c (.s .z) (.c (.s .z) (.c (.s .z) .n))) rfl rfl fun o2 x3 h4 => ?_
  refine lCallN fok_94 (.c (.t (.s (.s (.s (.s .z))))) (.c (.t .z) .n)) (paint_brush_lay_c a0 o2 b0_0 b0_1 v0_2) (.c .z (.c .z (.c .z .n))) rfl fun o5 x6 h7 => ?_
  refine lKeep (.d (.d (.d (.d (.d (.k .n)))))) ?_
  refine lNil ?_
  refine xCode ?_
  refine cSeq ?_
  refine cRegion ?_
  refine lRdK (dAssign (.c rfl)) (.d (Keep.refl _)) rfl rfl ?_
  refine lNil ?_
  refine xCode ?_
  refine cRet ?_
  refine rLeave hD ?_
  exact lvRet (rs := [.tmp 4]) rfl (.t .z .n) () rfl (.c .z (.c .z (.c .z .nil)))

-- (*greenscreen/paint.brush).jump
def paint_brush_jump_m (a0 : paint_brush) (a1 : api_Order) : Option (paint_brush × Int) := ((if a1.f_Addr < 0 then some true else (plane_Plane_Len_m a0.f_p).bind fun o3 => some (decide (a1.f_Addr ≥ o3)))).bind fun (s6 : Bool) => (if s6 = true then some (a0, 32) else some ((⟨a0.f_p, a1.f_Addr, a0.f_look, a0.f_laid⟩ : paint_brush), 0))
theorem paint_brush_jump_c (a0 : paint_brush) (a1 : api_Order) (b0_0 : Nat) (b0_1 : Nat) (v0_2 : Value) (v1_0 : Value) (v1_1 : Value) : Con Try.prog 83 #[.pointer (some ⟨b0_0, 0, none⟩), .agg #[vB a1.f_Kind, .int .i64 a1.f_Addr, vB a1.f_Byte, .bool a1.f_GE, v1_0, v1_1]] [.blk b0_0 [.pointer (some ⟨b0_1, 0, none⟩), .int .i64 a0.f_at, vB a0.f_look.f_Byte, .bool a0.f_look.f_GE, .bool a0.f_look.f_Start, vB a0.f_look.f_Light, vB a0.f_look.f_Color, .bool a0.f_laid] 123, .blk b0_1 [.int .i64 a0.f_p.f_size.f_Rows, .int .i64 a0.f_p.f_size.f_Cols, v0_2, .int .i64 a0.f_p.f_cursor] 66, .own v0_2 44 k_api_Cell a0.f_p.f_cells, .ro (kSl k_api_Pair) [v1_0] a1.f_Pairs, .ro (kSl kB) [v1_1] a1.f_Data] (paint_brush_jump_m a0 a1) (fun (o : paint_brush × Int) (x : Unit) => .int .i64 o.2) (fun (o : paint_brush × Int) (x : Unit) => [.blk b0_0 [.pointer (some ⟨b0_1, 0, none⟩), .int .i64 o.1.f_at, vB o.1.f_look.f_Byte, .bool o.1.f_look.f_GE, .bool o.1.f_look.f_Start, vB o.1.f_look.f_Light, vB o.1.f_look.f_Color, .bool o.1.f_laid] 123, .blk b0_1 [.int .i64 o.1.f_p.f_size.f_Rows, .int .i64 o.1.f_p.f_size.f_Cols, v0_2, .int .i64 o.1.f_p.f_cursor] 66, .own v0_2 44 k_api_Cell o.1.f_p.f_cells]) := by
  unfold paint_brush_jump_m
  refine con (args := [.pointer (some ⟨b0_0, 0, none⟩), .agg #[vB a1.f_Kind, .int .i64 a1.f_Addr, vB a1.f_Byte, .bool a1.f_GE, v1_0, v1_1]]) Try.func83 rfl 23 rfl (.c (.c .n)) rfl fun c hD hrn => ?_
  refine cSeq ?_
  refine cRegion ?_
  refine lCh (cBox (cs := [vB a1.f_Kind, .int .i64 a1.f_Addr, vB a1.f_Byte, .bool a1.f_GE, v1_0, v1_1]) (.t (.s .z)) rfl) rfl rfl fun b1 => ?_
  refine lRd (dAssign (.c rfl)) rfl rfl ?_
  refine lKeep (.k (.k (.k .n))) ?_
  refine lNil ?_
  refine xCode ?_
  refine cSeq ?_
  refine cSeq ?_
  refine cJoin (S := Bool) (X := Unit) (fun (s : Bool) (x : Unit) => [(17, .bool s), (4, .int .i64 0), (3, .pointer (some ⟨b1, 0, none⟩)), (0, .pointer (some ⟨b0_0, 0, none⟩))]) (fun (s : Bool) (x : Unit) => [.blk b1 [vB a1.f_Kind, .int .i64 a1.f_Addr, vB a1.f_Byte, .bool a1.f_GE, v1_0, v1_1] 97, .blk b0_0 [.pointer (some ⟨b0_1, 0, none⟩), .int .i64 a0.f_at, vB a0.f_look.f_Byte, .bool a0.f_look.f_GE, .bool a0.f_look.f_Start, vB a0.f_look.f_Light, vB a0.f_look.f_Color, .bool a0.f_laid] 123, .blk b0_1 [.int .i64 a0.f_p.f_size.f_Rows, .int .i64 a0.f_p.f_size.f_Cols, v0_2, .int .i64 a0.f_p.f_cursor] 66, .own v0_2 44 k_api_Cell a0.f_p.f_cells, .ro (kSl k_api_Pair) [v1_0] a1.f_Pairs, .ro (kSl kB) [v1_1] a1.f_Data]) ?_ (fun s6 x7 => ?_)
  · refine cRegionM [] [(0, .early), (1, .early), (2, .early), (3, .early), (4, .early), (5, .early), (6, .early), (7, .early), (8, .early), (9, .early), (10, .early), (11, .early), (12, .early)] mixed (by kernel_rfl) (.c .z (.c .z (.c .z (.c .z (.c .z (.c .z .nil)))))) (.c (.c (.c (.c (.c (.c .n)))))) ?_
    refine mRd rfl rfl (fun _ _ _ => dFld fld_97_1 (by decide) (.t (.s .z)) rfl) rfl rfl ?_
    refine mRd rfl rfl (fun _ _ _ => dLoad .z agg_3 (.t .z) rfl) rfl rfl ?_
    refine mRd rfl rfl (fun _ _ _ => dLt (.t .z) (.c rfl)) rfl rfl ?_
    refine mRd rfl rfl (fun _ _ _ => dMove (.t .z)) rfl rfl ?_
    refine mCase (fun h2 => ?_) (fun h2 => ?_)
    · refine mPass rfl rfl rfl .z (nbF (decide_eq_true h2)) rfl ?_
      refine mPass rfl rfl rfl .z (nbF (decide_eq_true h2)) rfl ?_
      refine mPass rfl rfl rfl .z (nbF (decide_eq_true h2)) rfl ?_
      refine mPass rfl rfl rfl .z (nbF (decide_eq_true h2)) rfl ?_
      refine mPass rfl rfl rfl .z (nbF (decide_eq_true h2)) rfl ?_
      refine mPass rfl rfl rfl .z (nbF (decide_eq_true h2)) rfl ?_
      refine mPass rfl rfl rfl .z (nbF (decide_eq_true h2)) rfl ?_
      refine mPass rfl rfl rfl .z (nbF (decide_eq_true h2)) rfl ?_
      refine mRd rfl rfl (fun _ _ _ => dPickT (.t .z) (decide_eq_true h2) (.c rfl)) rfl rfl ?_
      refine mKeep (.k (.d (.d (.d (.d (.k (.k (.k .n)))))))) ?_
      refine mNil ?_
      exact xJoin true () (.c .z (.c (.s .z) (.c (.s (.s .z)) (.c (.s (.s (.s .z))) .n)))) (.c .z (.c .z (.c .z (.c .z (.c .z (.c .z .nil))))))
    · refine mRdG rfl rfl rfl .z (decide_eq_false h2) (fun _ _ _ => dFld fld_97_1 (by decide) (.t (.s (.s (.s (.s (.s .z)))))) rfl) rfl rfl ?_
      refine mRdG rfl rfl rfl (.s .z) (decide_eq_false h2) (fun _ _ _ => dLoad .z agg_3 (.t .z) rfl) rfl rfl ?_
      refine mRdG rfl rfl rfl (.s (.s .z)) (decide_eq_false h2) (fun _ _ _ => dMove (.t (.s (.s (.s (.s (.s (.s (.s (.s .z)))))))))) rfl rfl ?_
      refine mRdG rfl rfl rfl (.s (.s (.s .z))) (decide_eq_false h2) (fun _ _ _ => dNil (.t .z)) rfl rfl ?_
      refine mRdG rfl rfl rfl (.s (.s (.s (.s .z)))) (decide_eq_false h2) (fun _ _ _ => dFld fld_123_0 (by decide) (.t .z) rfl) rfl rfl ?_
      refine mRdG rfl rfl rfl (.s (.s (.s (.s (.s .z))))) (decide_eq_false h2) (fun _ _ _ => dLoad (.s .z) agg_39 (.t .z) rfl) rfl rfl ?_
      refine mCallQG rfl rfl rfl (.s (.s (.s (.s (.s (.s .z)))))) (decide_eq_false h2) fok_12 (.c (.t .z) .n) (plane_Plane_Len_c a0.f_p b0_1 v0_2) (.c (.s (.s .z)) (.c (.s (.s .z)) .n)) (fun _ _ => rfl) (fun _ _ => (.c (.s (.s .z)) (.c (.s (.s .z)) (.c .z (.c .z (.c .z (.c .z .nil))))))) rfl rfl fun o3 h5 => ?_
      refine mRdG rfl rfl rfl (.s (.s (.s (.s (.s (.s (.s .z))))))) (decide_eq_false h2) (fun _ _ _ => dGe (.t (.s (.s (.s (.s (.s .z)))))) (.t .z)) rfl rfl ?_
      refine mRd rfl rfl (fun _ _ _ => dPickF (.t (.s (.s (.s (.s (.s (.s (.s (.s .z))))))))) (decide_eq_false h2) (.t .z)) rfl rfl ?_
      refine mKeep (.k (.d (.d (.d (.d (.d (.d (.d (.d (.d (.d (.d (.d (.k (.k (.k .n)))))))))))))))) ?_
      refine mNil ?_
      exact xJoin (decide (a1.f_Addr ≥ o3)) () (.c .z (.c (.s .z) (.c (.s (.s .z)) (.c (.s (.s (.s .z))) .n)))) (.c .z (.c .z (.c .z (.c .z (.c .z (.c .z .nil))))))
  · refine xCode ?_
    refine cCondB (.t .z) (fun h8 => ?_) (fun h8 => ?_)
    · refine cSeq ?_
      refine cRegion ?_
      refine lRdK (dAssign (.c rfl)) (.k (.d (Keep.refl _))) rfl rfl ?_
      refine lKeep (.k (.d (.k (.k .n)))) ?_
      refine lNil ?_
      refine xCode ?_
      refine cRet ?_
      refine rLeave hD ?_
      exact lvRet (rs := [.tmp 4]) rfl (.t .z .n) () rfl (.c (.s .z) (.c (.s .z) (.c (.s .z) .nil)))
    · refine cSkip ?_
      refine xCode ?_
      refine cSeq ?_
      refine cRegion ?_
      refine lRd (dMove (.t (.s (.s (.s .z))))) rfl rfl ?_
      refine lRd (dFld fld_97_1 (by decide) (.t (.s (.s (.s .z)))) rfl) rfl rfl ?_
      refine lRd (dLoad .z agg_3 (.t .z) rfl) rfl rfl ?_
      refine lRd (dNil (.t (.s (.s .z)))) rfl rfl ?_
      refine lRd (dFld fld_123_1 (by decide) (.t .z) rfl) rfl rfl ?_
      refine lChU (uStore (.s .z) siz_3 rfl (.s .z) (.t .z) (.t (.s (.s .z)))) ?_
      refine lKeep (.d (.d (.d (.d (.d (.d (.k .n))))))) ?_
      refine lNil ?_
      refine xCode ?_
      refine cSeq ?_
      refine cRegion ?_
      refine lRdK (dAssign (.c rfl)) (.d (Keep.refl _)) rfl rfl ?_
      refine lNil ?_
      refine xCode ?_
      refine cRet ?_
      refine rLeave hD ?_
      exact lvRet (rs := [.tmp 4]) rfl (.t .z .n) () rfl (.c (.s .z) (.c (.s .z) (.c (.s .z) .nil)))

-- greenscreen/attr.Dress
def attr_Dress_l1 (K : Nat) (a1 : (List api_Pair)) : Nat → (Int × UInt8 × UInt8 × UInt8) → Option (UInt8 × UInt8 × UInt8)
  | 0, _ => none
  | n + 1, s3 => (if s3.1 < (a1.length : Int) then (ix a1 s3.1).bind fun y9 => (if y9.f_Type = (192 : UInt8) then (attr_Dress_l1 K a1 n) (w64 (s3.1 + 1), y9.f_Value &&& (63 : UInt8), s3.2.2.1, s3.2.2.2) else (if y9.f_Type = (65 : UInt8) then (attr_Dress_l1 K a1 n) (w64 (s3.1 + 1), s3.2.1, y9.f_Value, s3.2.2.2) else (if y9.f_Type = (66 : UInt8) then (attr_Dress_l1 K a1 n) (w64 (s3.1 + 1), s3.2.1, s3.2.2.1, y9.f_Value) else (if y9.f_Type = (0 : UInt8) then (attr_Dress_l1 K a1 n) (w64 (s3.1 + 1), s3.2.1, (0 : UInt8), (0 : UInt8)) else (attr_Dress_l1 K a1 n) (w64 (s3.1 + 1), s3.2.1, s3.2.2.1, s3.2.2.2))))) else some (s3.2.1, s3.2.2.1, s3.2.2.2))
def attr_Dress_m (K : Nat) (a0 : api_Cell) (a1 : (List api_Pair)) : Option (api_Cell) := (attr_Dress_l1 K a1 K (0, a0.f_Byte, a0.f_Light, a0.f_Color)).bind fun (s17 : UInt8 × UInt8 × UInt8) => some (⟨s17.1, a0.f_GE, a0.f_Start, s17.2.1, s17.2.2⟩ : api_Cell)
theorem attr_Dress_c (K : Nat) (a0 : api_Cell) (a1 : (List api_Pair)) (v1_0 : Value) : Con Try.prog 96 #[.agg #[vB a0.f_Byte, .bool a0.f_GE, .bool a0.f_Start, vB a0.f_Light, vB a0.f_Color], v1_0] [.ro (kSl k_api_Pair) [v1_0] a1] (attr_Dress_m K a0 a1) (fun (o : api_Cell) (x : Unit) => .agg #[vB o.f_Byte, .bool o.f_GE, .bool o.f_Start, vB o.f_Light, vB o.f_Color]) (fun (o : api_Cell) (x : Unit) => []) := by
  unfold attr_Dress_m
  refine con (args := [.agg #[vB a0.f_Byte, .bool a0.f_GE, .bool a0.f_Start, vB a0.f_Light, vB a0.f_Color], v1_0]) Try.func96 rfl 37 rfl (.c (.c .n)) rfl fun c hD hrn => ?_
  refine cSeq ?_
  refine cRegion ?_
  refine lCh (cBox (cs := [vB a0.f_Byte, .bool a0.f_GE, .bool a0.f_Start, vB a0.f_Light, vB a0.f_Color]) (.t .z) rfl) rfl rfl fun b1 => ?_
  refine lCh (cAlloc (cs := [vB 0, .bool false, .bool false, vB 0, vB 0]) zer_44 rfl) rfl rfl fun b2 => ?_
  refine lKeep (.k (.k (.d (.k .n)))) ?_
  refine lNil ?_
  refine xCode ?_
  refine cSeq ?_
  refine cSeq ?_
  refine cRegion ?_
  refine lRd (dMove (.t (.s (.s .z)))) rfl rfl ?_
  refine lRd (dLen (at_ := #[95]) (slRo (.s (.s .z))) rfl und_95 (.t .z)) rfl rfl ?_
  refine lRd (dMove (.c rfl)) rfl rfl ?_
  refine lKeep (.k (.k (.k (.k (.k .n))))) ?_
  refine lNil ?_
  refine xCode ?_
  refine cLoopB (S := Int × UInt8 × UInt8 × UInt8) (X := Unit) (S' := UInt8 × UInt8 × UInt8) (X' := Unit) (attr_Dress_l1 K a1) (fun (s : Int × UInt8 × UInt8 × UInt8) (x : Unit) => [(9, .int .i64 s.1), (8, .int .i64 (a1.length : Int)), (7, v1_0), (4, .pointer (some ⟨b2, 0, none⟩)), (2, .pointer (some ⟨b1, 0, none⟩))]) (fun (s : Int × UInt8 × UInt8 × UInt8) (x : Unit) => [.blk b2 [vB 0, .bool false, .bool false, vB 0, vB 0] 44, .blk b1 [vB s.2.1, .bool a0.f_GE, .bool a0.f_Start, vB s.2.2.1, vB s.2.2.2] 44, .ro (kSl k_api_Pair) [v1_0] a1]) (fun (s : UInt8 × UInt8 × UInt8) (x : Unit) => [(4, .pointer (some ⟨b2, 0, none⟩)), (2, .pointer (some ⟨b1, 0, none⟩))]) (fun (s : UInt8 × UInt8 × UInt8) (x : Unit) => [.blk b2 [vB 0, .bool false, .bool false, vB 0, vB 0] 44, .blk b1 [vB s.1, .bool a0.f_GE, .bool a0.f_Start, vB s.2.1, vB s.2.2] 44, .ro (kSl k_api_Pair) [v1_0] a1]) K (0, a0.f_Byte, a0.f_Light, a0.f_Color) () (.c .z (.c (.s .z) (.c (.s (.s .z)) (.c (.s (.s (.s .z))) (.c (.s (.s (.s (.s .z)))) .n))))) (.c .z (.c .z (.c .z .nil))) (fun _ => rfl) (fun n5 I6 h7 s3 x4 => ?_) (fun s17 x18 => ?_)
  · rw [attr_Dress_l1]
    refine cSeq ?_
    refine cRegion ?_
    refine lRd (dLt (.t .z) (.t (.s .z))) rfl rfl ?_
    refine lNil ?_
    refine xCode ?_
    refine cSeq ?_
    refine cCond (.t .z) (fun h8 => ?_) (fun h8 => ?_)
    · refine cSkip ?_
      refine xCode ?_
      refine cSeq ?_
      refine cBlock ?_
      refine cSeq ?_
      refine cRegion ?_
      refine lIx fun y9 h10 h11 => ?_
      refine lRd (dIxAddr (slRo (.s (.s .z))) und_95 siz_132 (.t (.s (.s (.s .z)))) (.t (.s .z)) h10 h11) rfl rfl ?_
      refine lRd (dLoadEA (us := [vB y9.f_Type, vB y9.f_Value]) (slRo (.s (.s .z))) agg_132 siz_132 rfl (.t .z) h11 (fun _ _ h => by cases h; rfl)) rfl rfl ?_
      refine lCh (cAlloc (cs := [vB 0, vB 0]) zer_132 rfl) rfl rfl fun b12 => ?_
      refine lChU (uStoreA (us := [vB y9.f_Type, vB y9.f_Value]) (cs' := [vB y9.f_Type, vB y9.f_Value]) .z siz_132 rfl (by intro u hu; simp only [List.mem_cons, List.not_mem_nil, or_false] at hu; rcases hu with rfl | rfl <;> first | rfl | assumption) rfl (by simp) (.t .z) (.t (.s .z))) ?_
      refine lNil ?_
      refine xCode ?_
      refine cSeq ?_
      refine cRegion ?_
      refine lRd (dFld fld_132_0 (by decide) (.t .z) rfl) rfl rfl ?_
      refine lRd (dLoad .z agg_5 (.t .z) rfl) rfl rfl ?_
      refine lNil ?_
      refine xCode ?_
      refine cBlock ?_
      refine cSeq ?_
      refine cRegion ?_
      refine lRd (dEqB (.t .z) (.c (v' := vB 192) rfl)) rfl rfl ?_
      refine lRd (dAssign (.t .z)) rfl rfl ?_
      refine lNil ?_
      refine xCode ?_
      refine cCond (.t .z) (fun h13 => ?_) (fun h13 => ?_)
      · refine cRegion ?_
        refine lRd (dFld fld_132_1 (by decide) (.t (.s (.s (.s (.s .z))))) rfl) rfl rfl ?_
        refine lRd (dLoad .z agg_5 (.t .z) rfl) rfl rfl ?_
        refine lRd (dAndB (.t .z) (.c (v' := vB 63) rfl)) rfl rfl ?_
        refine lRd (dFld fld_44_0 (by decide) (.t (.s (.s (.s (.s (.s (.s (.s (.s (.s (.s (.s (.s (.s (.s (.s .z)))))))))))))))) rfl) rfl rfl ?_
        refine lChU (uStore (.s (.s .z)) siz_5 rfl .z (.t .z) (.t (.s .z))) ?_
        refine lNil ?_
        refine xBlock ?_
        refine xBlock ?_
        refine xCode ?_
        refine cRegion ?_
        refine lRd (dAddI (.t (.s (.s (.s (.s (.s (.s (.s (.s (.s (.s (.s (.s .z))))))))))))) (.c rfl)) rfl rfl ?_
        refine lRdK (dMove (.t .z)) (.k (.k (.k (.k (.k (.k (.k (.k (.k (.k (.k (.k (.k (.d (Keep.refl _))))))))))))))) rfl rfl ?_
        refine lNil ?_
        exact xRound h7 (w64 (s3.1 + 1), y9.f_Value &&& (63 : UInt8), s3.2.2.1, s3.2.2.2) () (.c .z (.c (.s (.s (.s (.s (.s (.s (.s (.s (.s (.s (.s (.s (.s (.s .z)))))))))))))) (.c (.s (.s (.s (.s (.s (.s (.s (.s (.s (.s (.s (.s (.s (.s (.s .z))))))))))))))) (.c (.s (.s (.s (.s (.s (.s (.s (.s (.s (.s (.s (.s (.s (.s (.s (.s .z)))))))))))))))) (.c (.s (.s (.s (.s (.s (.s (.s (.s (.s (.s (.s (.s (.s (.s (.s (.s (.s .z))))))))))))))))) .n))))) (.c (.s .z) (.c (.s .z) (.c (.s .z) .nil)))
      · refine cSeq ?_
        refine cRegion ?_
        refine lRd (dEqB (.t (.s (.s .z))) (.c (v' := vB 65) rfl)) rfl rfl ?_
        refine lRd (dAssign (.t .z)) rfl rfl ?_
        refine lNil ?_
        refine xCode ?_
        refine cCond (.t .z) (fun h14 => ?_) (fun h14 => ?_)
        · refine cRegion ?_
          refine lRd (dFld fld_132_1 (by decide) (.t (.s (.s (.s (.s (.s (.s .z))))))) rfl) rfl rfl ?_
          refine lRd (dLoad .z agg_5 (.t .z) rfl) rfl rfl ?_
          refine lRd (dFld fld_44_3 (by decide) (.t (.s (.s (.s (.s (.s (.s (.s (.s (.s (.s (.s (.s (.s (.s (.s (.s .z))))))))))))))))) rfl) rfl rfl ?_
          refine lChU (uStore (.s (.s .z)) siz_5 rfl (.s (.s (.s .z))) (.t .z) (.t (.s .z))) ?_
          refine lNil ?_
          refine xBlock ?_
          refine xBlock ?_
          refine xCode ?_
          refine cRegion ?_
          refine lRd (dAddI (.t (.s (.s (.s (.s (.s (.s (.s (.s (.s (.s (.s (.s (.s .z)))))))))))))) (.c rfl)) rfl rfl ?_
          refine lRdK (dMove (.t .z)) (.k (.k (.k (.k (.k (.k (.k (.k (.k (.k (.k (.k (.k (.k (.d (Keep.refl _)))))))))))))))) rfl rfl ?_
          refine lNil ?_
          exact xRound h7 (w64 (s3.1 + 1), s3.2.1, y9.f_Value, s3.2.2.2) () (.c .z (.c (.s (.s (.s (.s (.s (.s (.s (.s (.s (.s (.s (.s (.s (.s (.s .z))))))))))))))) (.c (.s (.s (.s (.s (.s (.s (.s (.s (.s (.s (.s (.s (.s (.s (.s (.s .z)))))))))))))))) (.c (.s (.s (.s (.s (.s (.s (.s (.s (.s (.s (.s (.s (.s (.s (.s (.s (.s .z))))))))))))))))) (.c (.s (.s (.s (.s (.s (.s (.s (.s (.s (.s (.s (.s (.s (.s (.s (.s (.s (.s .z)))))))))))))))))) .n))))) (.c (.s .z) (.c (.s .z) (.c (.s .z) .nil)))
        · refine cSeq ?_
          refine cRegion ?_
          refine lRd (dEqB (.t (.s (.s (.s (.s .z))))) (.c (v' := vB 66) rfl)) rfl rfl ?_
          refine lRd (dAssign (.t .z)) rfl rfl ?_
          refine lNil ?_
          refine xCode ?_
          refine cCond (.t .z) (fun h15 => ?_) (fun h15 => ?_)
          · refine cRegion ?_
            refine lRd (dFld fld_132_1 (by decide) (.t (.s (.s (.s (.s (.s (.s (.s (.s .z))))))))) rfl) rfl rfl ?_
            refine lRd (dLoad .z agg_5 (.t .z) rfl) rfl rfl ?_
            refine lRd (dFld fld_44_4 (by decide) (.t (.s (.s (.s (.s (.s (.s (.s (.s (.s (.s (.s (.s (.s (.s (.s (.s (.s (.s .z))))))))))))))))))) rfl) rfl rfl ?_
            refine lChU (uStore (.s (.s .z)) siz_5 rfl (.s (.s (.s (.s .z)))) (.t .z) (.t (.s .z))) ?_
            refine lNil ?_
            refine xBlock ?_
            refine xBlock ?_
            refine xCode ?_
            refine cRegion ?_
            refine lRd (dAddI (.t (.s (.s (.s (.s (.s (.s (.s (.s (.s (.s (.s (.s (.s (.s (.s .z)))))))))))))))) (.c rfl)) rfl rfl ?_
            refine lRdK (dMove (.t .z)) (.k (.k (.k (.k (.k (.k (.k (.k (.k (.k (.k (.k (.k (.k (.k (.k (.d (Keep.refl _)))))))))))))))))) rfl rfl ?_
            refine lNil ?_
            exact xRound h7 (w64 (s3.1 + 1), s3.2.1, s3.2.2.1, y9.f_Value) () (.c .z (.c (.s (.s (.s (.s (.s (.s (.s (.s (.s (.s (.s (.s (.s (.s (.s (.s (.s .z))))))))))))))))) (.c (.s (.s (.s (.s (.s (.s (.s (.s (.s (.s (.s (.s (.s (.s (.s (.s (.s (.s .z)))))))))))))))))) (.c (.s (.s (.s (.s (.s (.s (.s (.s (.s (.s (.s (.s (.s (.s (.s (.s (.s (.s (.s .z))))))))))))))))))) (.c (.s (.s (.s (.s (.s (.s (.s (.s (.s (.s (.s (.s (.s (.s (.s (.s (.s (.s (.s (.s .z)))))))))))))))))))) .n))))) (.c (.s .z) (.c (.s .z) (.c (.s .z) .nil)))
          · refine cSeq ?_
            refine cRegion ?_
            refine lRd (dEqB (.t (.s (.s (.s (.s (.s (.s .z))))))) (.c (v' := vB 0) rfl)) rfl rfl ?_
            refine lRd (dAssign (.t .z)) rfl rfl ?_
            refine lNil ?_
            refine xCode ?_
            refine cCond (.t .z) (fun h16 => ?_) (fun h16 => ?_)
            · refine cRegion ?_
              refine lRd (dFld fld_44_3 (by decide) (.t (.s (.s (.s (.s (.s (.s (.s (.s (.s (.s (.s (.s (.s (.s (.s (.s (.s (.s .z))))))))))))))))))) rfl) rfl rfl ?_
              refine lChU (uStore (.s (.s .z)) siz_5 rfl (.s (.s (.s .z))) (.t .z) (.c (v' := vB 0) rfl)) ?_
              refine lRd (dFld fld_44_4 (by decide) (.t (.s (.s (.s (.s (.s (.s (.s (.s (.s (.s (.s (.s (.s (.s (.s (.s (.s (.s (.s .z)))))))))))))))))))) rfl) rfl rfl ?_
              refine lChU (uStore (.s (.s .z)) siz_5 rfl (.s (.s (.s (.s .z)))) (.t .z) (.c (v' := vB 0) rfl)) ?_
              refine lNil ?_
              refine xBlock ?_
              refine xBlock ?_
              refine xCode ?_
              refine cRegion ?_
              refine lRd (dAddI (.t (.s (.s (.s (.s (.s (.s (.s (.s (.s (.s (.s (.s (.s (.s (.s (.s .z))))))))))))))))) (.c rfl)) rfl rfl ?_
              refine lRdK (dMove (.t .z)) (.k (.k (.k (.k (.k (.k (.k (.k (.k (.k (.k (.k (.k (.k (.k (.k (.k (.d (Keep.refl _))))))))))))))))))) rfl rfl ?_
              refine lNil ?_
              exact xRound h7 (w64 (s3.1 + 1), s3.2.1, (0 : UInt8), (0 : UInt8)) () (.c .z (.c (.s (.s (.s (.s (.s (.s (.s (.s (.s (.s (.s (.s (.s (.s (.s (.s (.s (.s .z)))))))))))))))))) (.c (.s (.s (.s (.s (.s (.s (.s (.s (.s (.s (.s (.s (.s (.s (.s (.s (.s (.s (.s .z))))))))))))))))))) (.c (.s (.s (.s (.s (.s (.s (.s (.s (.s (.s (.s (.s (.s (.s (.s (.s (.s (.s (.s (.s .z)))))))))))))))))))) (.c (.s (.s (.s (.s (.s (.s (.s (.s (.s (.s (.s (.s (.s (.s (.s (.s (.s (.s (.s (.s (.s .z))))))))))))))))))))) .n))))) (.c (.s .z) (.c (.s .z) (.c (.s .z) .nil)))
            · refine cSkip ?_
              refine xBlock ?_
              refine xBlock ?_
              refine xCode ?_
              refine cRegion ?_
              refine lRd (dAddI (.t (.s (.s (.s (.s (.s (.s (.s (.s (.s (.s (.s (.s (.s (.s .z))))))))))))))) (.c rfl)) rfl rfl ?_
              refine lRdK (dMove (.t .z)) (.k (.k (.k (.k (.k (.k (.k (.k (.k (.k (.k (.k (.k (.k (.k (.d (Keep.refl _))))))))))))))))) rfl rfl ?_
              refine lNil ?_
              exact xRound h7 (w64 (s3.1 + 1), s3.2.1, s3.2.2.1, s3.2.2.2) () (.c .z (.c (.s (.s (.s (.s (.s (.s (.s (.s (.s (.s (.s (.s (.s (.s (.s (.s .z)))))))))))))))) (.c (.s (.s (.s (.s (.s (.s (.s (.s (.s (.s (.s (.s (.s (.s (.s (.s (.s .z))))))))))))))))) (.c (.s (.s (.s (.s (.s (.s (.s (.s (.s (.s (.s (.s (.s (.s (.s (.s (.s (.s .z)))))))))))))))))) (.c (.s (.s (.s (.s (.s (.s (.s (.s (.s (.s (.s (.s (.s (.s (.s (.s (.s (.s (.s .z))))))))))))))))))) .n))))) (.c (.s .z) (.c (.s .z) (.c (.s .z) .nil)))
    · refine cExit ?_
      refine xOver ?_
      refine xOverF ?_
      exact xJoin (s3.2.1, s3.2.2.1, s3.2.2.2) () (.c (.s (.s (.s (.s .z)))) (.c (.s (.s (.s (.s (.s .z))))) .n)) (.c .z (.c .z (.c .z .nil)))
  · refine xCode ?_
    refine cSeq ?_
    refine cRegion ?_
    refine lRd (dLoadA (us := [vB s17.1, .bool a0.f_GE, .bool a0.f_Start, vB s17.2.1, vB s17.2.2]) (.s .z) agg_44 siz_44 rfl (.t (.s .z)) rfl) rfl rfl ?_
    refine lChU (uStoreA (us := [vB s17.1, .bool a0.f_GE, .bool a0.f_Start, vB s17.2.1, vB s17.2.2]) (cs' := [vB s17.1, .bool a0.f_GE, .bool a0.f_Start, vB s17.2.1, vB s17.2.2]) .z siz_44 rfl (by intro u hu; simp only [List.mem_cons, List.not_mem_nil, or_false] at hu; rcases hu with rfl | rfl | rfl | rfl | rfl <;> first | rfl | assumption) rfl (by simp) (.t (.s .z)) (.t .z)) ?_
    refine lKeep (.d (.k .n)) ?_
    refine lNil ?_
    refine xCode ?_
    refine cRet ?_
    refine rLeave hD ?_
    exact lvRet (rs := [.cell 4 44]) rfl (.a .z .z agg_44 siz_44 .n) () rfl .nil

-- (*greenscreen/paint.brush).start
def paint_brush_start_m (K : Nat) (a0 : paint_brush) (a1 : api_Order) : Option (paint_brush × Int) := ((if a1.f_Kind = (29 : UInt8) then some (a1.f_Byte &&& (63 : UInt8), false, true, 0, 0) else (attr_Dress_m K (⟨0, false, true, 0, 0⟩ : api_Cell) a1.f_Pairs).bind fun o4 => some (o4.f_Byte, o4.f_GE, o4.f_Start, o4.f_Light, o4.f_Color))).bind fun (s7 : UInt8 × Bool × Bool × UInt8 × UInt8) => (paint_brush_lay_m a0 (⟨s7.1, s7.2.1, s7.2.2.1, s7.2.2.2.1, s7.2.2.2.2⟩ : api_Cell)).bind fun o9 => some (o9, 0)
theorem paint_brush_start_c (K : Nat) (a0 : paint_brush) (a1 : api_Order) (b0_0 : Nat) (b0_1 : Nat) (v0_2 : Value) (v1_0 : Value) (v1_1 : Value) : Con Try.prog 84 #[.pointer (some ⟨b0_0, 0, none⟩), .agg #[vB a1.f_Kind, .int .i64 a1.f_Addr, vB a1.f_Byte, .bool a1.f_GE, v1_0, v1_1]] [.blk b0_0 [.pointer (some ⟨b0_1, 0, none⟩), .int .i64 a0.f_at, vB a0.f_look.f_Byte, .bool a0.f_look.f_GE, .bool a0.f_look.f_Start, vB a0.f_look.f_Light, vB a0.f_look.f_Color, .bool a0.f_laid] 123, .blk b0_1 [.int .i64 a0.f_p.f_size.f_Rows, .int .i64 a0.f_p.f_size.f_Cols, v0_2, .int .i64 a0.f_p.f_cursor] 66, .own v0_2 44 k_api_Cell a0.f_p.f_cells, .ro (kSl k_api_Pair) [v1_0] a1.f_Pairs, .ro (kSl kB) [v1_1] a1.f_Data] (paint_brush_start_m K a0 a1) (fun (o : paint_brush × Int) (x : Unit) => .int .i64 o.2) (fun (o : paint_brush × Int) (x : Unit) => [.blk b0_0 [.pointer (some ⟨b0_1, 0, none⟩), .int .i64 o.1.f_at, vB o.1.f_look.f_Byte, .bool o.1.f_look.f_GE, .bool o.1.f_look.f_Start, vB o.1.f_look.f_Light, vB o.1.f_look.f_Color, .bool o.1.f_laid] 123, .blk b0_1 [.int .i64 o.1.f_p.f_size.f_Rows, .int .i64 o.1.f_p.f_size.f_Cols, v0_2, .int .i64 o.1.f_p.f_cursor] 66, .own v0_2 44 k_api_Cell o.1.f_p.f_cells]) := by
  unfold paint_brush_start_m
  refine con (args := [.pointer (some ⟨b0_0, 0, none⟩), .agg #[vB a1.f_Kind, .int .i64 a1.f_Addr, vB a1.f_Byte, .bool a1.f_GE, v1_0, v1_1]]) Try.func84 rfl 21 rfl (.c (.c .n)) rfl fun c hD hrn => ?_
  refine cSeq ?_
  refine cRegion ?_
  refine lCh (cBox (cs := [vB a1.f_Kind, .int .i64 a1.f_Addr, vB a1.f_Byte, .bool a1.f_GE, v1_0, v1_1]) (.t (.s .z)) rfl) rfl rfl fun b1 => ?_
  refine lRd (dAssign (.c rfl)) rfl rfl ?_
  refine lKeep (.k (.k (.k .n))) ?_
  refine lNil ?_
  refine xCode ?_
  refine cSeq ?_
  refine cRegion ?_
  refine lRd (dBuild (cs := [vB 0, .bool false, .bool true, vB 0, vB 0]) zer_44 rfl plc_44 (.c (.c rfl) .n) rfl) rfl rfl ?_
  refine lCh (cAlloc (cs := [vB 0, .bool false, .bool false, vB 0, vB 0]) zer_44 rfl) rfl rfl fun b2 => ?_
  refine lChU (uStoreA (us := [vB 0, .bool false, .bool true, vB 0, vB 0]) (cs' := [vB 0, .bool false, .bool true, vB 0, vB 0]) .z siz_44 rfl (by intro u hu; simp only [List.mem_cons, List.not_mem_nil, or_false] at hu; rcases hu with rfl | rfl | rfl | rfl | rfl <;> first | rfl | assumption) rfl (by simp) (.t .z) (.t (.s .z))) ?_
  refine lKeep (.k (.d (.k (.k (.k .n))))) ?_
  refine lNil ?_
  refine xCode ?_
  refine cSeq ?_
  refine cSeq ?_
  refine cRegion ?_
  refine lRd (dFld fld_97_0 (by decide) (.t (.s (.s .z))) rfl) rfl rfl ?_
  refine lRd (dLoad (.s .z) agg_5 (.t .z) rfl) rfl rfl ?_
  refine lRd (dEqB (.t .z) (.c (v' := vB 29) rfl)) rfl rfl ?_
  refine lKeep (.k (.d (.d (.k (.k (.k (.k .n))))))) ?_
  refine lNil ?_
  refine xCode ?_
  refine cJoin (S := UInt8 × Bool × Bool × UInt8 × UInt8) (X := Unit) (fun (s : UInt8 × Bool × Bool × UInt8 × UInt8) (x : Unit) => [(5, .pointer (some ⟨b2, 0, none⟩)), (4, .int .i64 0), (0, .pointer (some ⟨b0_0, 0, none⟩))]) (fun (s : UInt8 × Bool × Bool × UInt8 × UInt8) (x : Unit) => [.blk b2 [vB s.1, .bool s.2.1, .bool s.2.2.1, vB s.2.2.2.1, vB s.2.2.2.2] 44, .blk b1 [vB a1.f_Kind, .int .i64 a1.f_Addr, vB a1.f_Byte, .bool a1.f_GE, v1_0, v1_1] 97, .blk b0_0 [.pointer (some ⟨b0_1, 0, none⟩), .int .i64 a0.f_at, vB a0.f_look.f_Byte, .bool a0.f_look.f_GE, .bool a0.f_look.f_Start, vB a0.f_look.f_Light, vB a0.f_look.f_Color, .bool a0.f_laid] 123, .blk b0_1 [.int .i64 a0.f_p.f_size.f_Rows, .int .i64 a0.f_p.f_size.f_Cols, v0_2, .int .i64 a0.f_p.f_cursor] 66, .own v0_2 44 k_api_Cell a0.f_p.f_cells, .ro (kSl k_api_Pair) [v1_0] a1.f_Pairs, .ro (kSl kB) [v1_1] a1.f_Data]) ?_ (fun s7 x8 => ?_)
  · refine cCond (.t .z) (fun h3 => ?_) (fun h3 => ?_)
    · refine cRegion ?_
      refine lRd (dFld fld_97_2 (by decide) (.t (.s (.s (.s .z)))) rfl) rfl rfl ?_
      refine lRd (dLoad (.s .z) agg_5 (.t .z) rfl) rfl rfl ?_
      refine lRd (dAndB (.t .z) (.c (v' := vB 63) rfl)) rfl rfl ?_
      refine lRd (dFld fld_44_0 (by decide) (.t (.s (.s (.s (.s .z))))) rfl) rfl rfl ?_
      refine lChU (uStore .z siz_5 rfl .z (.t .z) (.t (.s .z))) ?_
      refine lKeep (.d (.d (.d (.d (.d (.k (.k (.d (.k .n))))))))) ?_
      refine lNil ?_
      exact xJoin (a1.f_Byte &&& (63 : UInt8), false, true, 0, 0) () (.c .z (.c (.s .z) (.c (.s (.s .z)) .n))) (.c .z (.c .z (.c .z (.c .z (.c .z (.c .z (.c .z .nil)))))))
    · refine cRegion ?_
      refine lRd (dLoadA (us := [vB 0, .bool false, .bool true, vB 0, vB 0]) .z agg_44 siz_44 rfl (.t (.s .z)) rfl) rfl rfl ?_
      refine lRd (dFld fld_97_4 (by decide) (.t (.s (.s (.s (.s .z))))) rfl) rfl rfl ?_
      refine lRd (dLoad (.s .z) agg_95 (.t .z) rfl) rfl rfl ?_
      refine lCall fok_96 (.c (.t (.s (.s .z))) (.c (.t .z) .n)) (attr_Dress_c K (⟨0, false, true, 0, 0⟩ : api_Cell) a1.f_Pairs v1_0) (.r (.s (.s (.s (.s (.s .z))))) .n) rfl rfl fun o4 x5 h6 => ?_
      refine lChU (uStoreA (us := [vB o4.f_Byte, .bool o4.f_GE, .bool o4.f_Start, vB o4.f_Light, vB o4.f_Color]) (cs' := [vB o4.f_Byte, .bool o4.f_GE, .bool o4.f_Start, vB o4.f_Light, vB o4.f_Color]) .z siz_44 rfl (by intro u hu; simp only [List.mem_cons, List.not_mem_nil, or_false] at hu; rcases hu with rfl | rfl | rfl | rfl | rfl <;> first | rfl | assumption) rfl (by simp) (.t (.s (.s (.s (.s (.s .z)))))) (.t .z)) ?_
      refine lKeep (.d (.d (.d (.d (.d (.k (.k (.d (.k .n))))))))) ?_
      refine lNil ?_
      exact xJoin (o4.f_Byte, o4.f_GE, o4.f_Start, o4.f_Light, o4.f_Color) () (.c .z (.c (.s .z) (.c (.s (.s .z)) .n))) (.c .z (.c .z (.c .z (.c .z (.c .z (.c .z (.c .z .nil)))))))
  · refine xCode ?_
    refine cSeq ?_
    refine cRegion ?_
    refine lRd (dMove (.t (.s (.s .z)))) rfl rfl ?_
    refine lRd (dLoadA (us := [vB s7.1, .bool s7.2.1, .bool s7.2.2.1, vB s7.2.2.2.1, vB s7.2.2.2.2]) .z agg_44 siz_44 rfl (.t (.s .z)) rfl) rfl rfl ?_
    refine lCallN fok_94 (.c (.t (.s .z)) (.c (.t .z) .n)) (paint_brush_lay_c a0 (⟨s7.1, s7.2.1, s7.2.2.1, s7.2.2.2.1, s7.2.2.2.2⟩ : api_Cell) b0_0 b0_1 v0_2) (.c (.s (.s .z)) (.c (.s (.s .z)) (.c (.s (.s .z)) .n))) rfl fun o9 x10 h11 => ?_
    refine lKeep (.d (.d (.d (.k .n)))) ?_
    refine lNil ?_
    refine xCode ?_
    refine cSeq ?_
    refine cRegion ?_
    refine lRdK (dAssign (.c rfl)) (.d (Keep.refl _)) rfl rfl ?_
    refine lNil ?_
    refine xCode ?_
    refine cRet ?_
    refine rLeave hD ?_
    exact lvRet (rs := [.tmp 4]) rfl (.t .z .n) () rfl (.c .z (.c .z (.c .z .nil)))

-- (*greenscreen/paint.brush).dress
def paint_brush_dress_m (K : Nat) (a0 : paint_brush) (a1 : api_Order) : Option (paint_brush × Int) := (attr_Dress_m K a0.f_look a1.f_Pairs).bind fun o2 => some ((⟨a0.f_p, a0.f_at, o2, a0.f_laid⟩ : paint_brush), 0)
theorem paint_brush_dress_c (K : Nat) (a0 : paint_brush) (a1 : api_Order) (b0_0 : Nat) (b0_1 : Nat) (v0_2 : Value) (v1_0 : Value) (v1_1 : Value) : Con Try.prog 85 #[.pointer (some ⟨b0_0, 0, none⟩), .agg #[vB a1.f_Kind, .int .i64 a1.f_Addr, vB a1.f_Byte, .bool a1.f_GE, v1_0, v1_1]] [.blk b0_0 [.pointer (some ⟨b0_1, 0, none⟩), .int .i64 a0.f_at, vB a0.f_look.f_Byte, .bool a0.f_look.f_GE, .bool a0.f_look.f_Start, vB a0.f_look.f_Light, vB a0.f_look.f_Color, .bool a0.f_laid] 123, .blk b0_1 [.int .i64 a0.f_p.f_size.f_Rows, .int .i64 a0.f_p.f_size.f_Cols, v0_2, .int .i64 a0.f_p.f_cursor] 66, .own v0_2 44 k_api_Cell a0.f_p.f_cells, .ro (kSl k_api_Pair) [v1_0] a1.f_Pairs, .ro (kSl kB) [v1_1] a1.f_Data] (paint_brush_dress_m K a0 a1) (fun (o : paint_brush × Int) (x : Unit) => .int .i64 o.2) (fun (o : paint_brush × Int) (x : Unit) => [.blk b0_0 [.pointer (some ⟨b0_1, 0, none⟩), .int .i64 o.1.f_at, vB o.1.f_look.f_Byte, .bool o.1.f_look.f_GE, .bool o.1.f_look.f_Start, vB o.1.f_look.f_Light, vB o.1.f_look.f_Color, .bool o.1.f_laid] 123, .blk b0_1 [.int .i64 o.1.f_p.f_size.f_Rows, .int .i64 o.1.f_p.f_size.f_Cols, v0_2, .int .i64 o.1.f_p.f_cursor] 66, .own v0_2 44 k_api_Cell o.1.f_p.f_cells]) := by
  unfold paint_brush_dress_m
  refine con (args := [.pointer (some ⟨b0_0, 0, none⟩), .agg #[vB a1.f_Kind, .int .i64 a1.f_Addr, vB a1.f_Byte, .bool a1.f_GE, v1_0, v1_1]]) Try.func85 rfl 15 rfl (.c (.c .n)) rfl fun c hD hrn => ?_
  refine cSeq ?_
  refine cRegion ?_
  refine lCh (cBox (cs := [vB a1.f_Kind, .int .i64 a1.f_Addr, vB a1.f_Byte, .bool a1.f_GE, v1_0, v1_1]) (.t (.s .z)) rfl) rfl rfl fun b1 => ?_
  refine lRd (dAssign (.c rfl)) rfl rfl ?_
  refine lKeep (.k (.k (.k .n))) ?_
  refine lNil ?_
  refine xCode ?_
  refine cSeq ?_
  refine cRegionM [10] [(0, .early), (1, .early), (2, .early), (3, .early), (4, .early), (5, .early), (6, .early), (7, .early), (8, .early), (9, .early), (10, .only)] mixed (by kernel_rfl) (.c .z (.c (.s .z) (.c (.s .z) (.c (.s .z) (.c (.s .z) (.c .z .nil)))))) (.c (.c (.c (.c (.c .n))))) ?_
  refine mRd rfl rfl (fun _ _ _ => dMove (.t (.s (.s .z)))) rfl rfl ?_
  refine mRd rfl rfl (fun _ _ _ => dMove (.t (.s (.s (.s .z))))) rfl rfl ?_
  refine mRd rfl rfl (fun _ _ _ => dNil (.t .z)) rfl rfl ?_
  refine mRd rfl rfl (fun _ _ _ => dFld fld_123_2 (by decide) (.t .z) rfl) rfl rfl ?_
  refine mRd rfl rfl (fun _ _ _ => dLoadA (us := [vB a0.f_look.f_Byte, .bool a0.f_look.f_GE, .bool a0.f_look.f_Start, vB a0.f_look.f_Light, vB a0.f_look.f_Color]) (.s (.s (.s (.s (.s .z))))) agg_44 siz_44 rfl (.t .z) rfl) rfl rfl ?_
  refine mRd rfl rfl (fun _ _ _ => dFld fld_97_4 (by decide) (.t (.s (.s (.s (.s (.s (.s .z))))))) rfl) rfl rfl ?_
  refine mRd rfl rfl (fun _ _ _ => dLoad .z agg_95 (.t .z) rfl) rfl rfl ?_
  refine mCallQ rfl rfl fok_96 (.c (.t (.s (.s .z))) (.c (.t .z) .n)) (attr_Dress_c K a0.f_look a1.f_Pairs v1_0) (.r (.s (.s (.s .z))) .n) (fun _ _ => rfl) (fun _ _ => (.c .z (.c .z (.c .z (.c .z (.c .z (.c .z .nil))))))) rfl rfl fun o2 h4 => ?_
  refine mRd rfl rfl (fun _ _ _ => dNil (.t (.s (.s (.s (.s (.s (.s (.s .z))))))))) rfl rfl ?_
  refine mRd rfl rfl (fun _ _ _ => dFld fld_123_2 (by decide) (.t .z) rfl) rfl rfl ?_
  refine mChU rfl rfl (uStoreA (us := [vB o2.f_Byte, .bool o2.f_GE, .bool o2.f_Start, vB o2.f_Light, vB o2.f_Color]) (cs' := [.pointer (some ⟨b0_1, 0, none⟩), .int .i64 a0.f_at, vB o2.f_Byte, .bool o2.f_GE, .bool o2.f_Start, vB o2.f_Light, vB o2.f_Color, .bool a0.f_laid]) (.s (.s (.s (.s (.s .z))))) siz_44 rfl (by intro u hu; simp only [List.mem_cons, List.not_mem_nil, or_false] at hu; rcases hu with rfl | rfl | rfl | rfl | rfl <;> first | rfl | assumption) rfl (by simp) (.t .z) (.t (.s (.s .z)))) (.c .z (.c .z (.c .z (.c .z (.c .z (.c .z .nil)))))) (.c (.c (.c (.c (.c .n))))) ?_
  refine mKeep (.d (.d (.d (.d (.d (.d (.d (.d (.d (.d (.k .n))))))))))) ?_
  refine mNil ?_
  refine xCode ?_
  refine cSeq ?_
  refine cRegion ?_
  refine lRdK (dAssign (.c rfl)) (.d (Keep.refl _)) rfl rfl ?_
  refine lNil ?_
  refine xCode ?_
  refine cRet ?_
  refine rLeave hD ?_
  exact lvRet (rs := [.tmp 4]) rfl (.t .z .n) () rfl (.c (.s (.s (.s (.s (.s .z))))) (.c (.s .z) (.c (.s .z) .nil)))

-- (*greenscreen/paint.brush).modify
def paint_brush_modify_m (K : Nat) (a0 : paint_brush) (a1 : api_Order) : Option (paint_brush × Int) := (plane_Plane_At_m a0.f_p a0.f_at).bind fun o2 => (if (!o2.f_Start) = true then some (a0, 31) else (attr_Dress_m K o2 a1.f_Pairs).bind fun o7 => (paint_brush_lay_m a0 o7).bind fun o10 => some (o10, 0))
theorem paint_brush_modify_c (K : Nat) (a0 : paint_brush) (a1 : api_Order) (b0_0 : Nat) (b0_1 : Nat) (v0_2 : Value) (v1_0 : Value) (v1_1 : Value) : Con Try.prog 86 #[.pointer (some ⟨b0_0, 0, none⟩), .agg #[vB a1.f_Kind, .int .i64 a1.f_Addr, vB a1.f_Byte, .bool a1.f_GE, v1_0, v1_1]] [.blk b0_0 [.pointer (some ⟨b0_1, 0, none⟩), .int .i64 a0.f_at, vB a0.f_look.f_Byte, .bool a0.f_look.f_GE, .bool a0.f_look.f_Start, vB a0.f_look.f_Light, vB a0.f_look.f_Color, .bool a0.f_laid] 123, .blk b0_1 [.int .i64 a0.f_p.f_size.f_Rows, .int .i64 a0.f_p.f_size.f_Cols, v0_2, .int .i64 a0.f_p.f_cursor] 66, .own v0_2 44 k_api_Cell a0.f_p.f_cells, .ro (kSl k_api_Pair) [v1_0] a1.f_Pairs, .ro (kSl kB) [v1_1] a1.f_Data] (paint_brush_modify_m K a0 a1) (fun (o : paint_brush × Int) (x : Unit) => .int .i64 o.2) (fun (o : paint_brush × Int) (x : Unit) => [.blk b0_0 [.pointer (some ⟨b0_1, 0, none⟩), .int .i64 o.1.f_at, vB o.1.f_look.f_Byte, .bool o.1.f_look.f_GE, .bool o.1.f_look.f_Start, vB o.1.f_look.f_Light, vB o.1.f_look.f_Color, .bool o.1.f_laid] 123, .blk b0_1 [.int .i64 o.1.f_p.f_size.f_Rows, .int .i64 o.1.f_p.f_size.f_Cols, v0_2, .int .i64 o.1.f_p.f_cursor] 66, .own v0_2 44 k_api_Cell o.1.f_p.f_cells]) := by
  unfold paint_brush_modify_m
  refine con (args := [.pointer (some ⟨b0_0, 0, none⟩), .agg #[vB a1.f_Kind, .int .i64 a1.f_Addr, vB a1.f_Byte, .bool a1.f_GE, v1_0, v1_1]]) Try.func86 rfl 24 rfl (.c (.c .n)) rfl fun c hD hrn => ?_
  refine cSeq ?_
  refine cRegion ?_
  refine lCh (cBox (cs := [vB a1.f_Kind, .int .i64 a1.f_Addr, vB a1.f_Byte, .bool a1.f_GE, v1_0, v1_1]) (.t (.s .z)) rfl) rfl rfl fun b1 => ?_
  refine lRd (dAssign (.c rfl)) rfl rfl ?_
  refine lKeep (.k (.k (.k .n))) ?_
  refine lNil ?_
  refine xCode ?_
  refine cSeq ?_
  refine cRegionM [9, 10] [(0, .quiet), (1, .quiet), (2, .quiet), (3, .quiet), (4, .quiet), (5, .quiet), (6, .quiet), (7, .quiet), (8, .quiet), (9, .only), (10, .only)] mixed (by kernel_rfl) (.c .z (.c .z (.c .z (.c .z (.c .z (.c .z .nil)))))) (.c (.c (.c (.c (.c (.c .n)))))) ?_
  refine mRd rfl rfl (fun _ _ _ => dMove (.t (.s (.s .z)))) rfl rfl ?_
  refine mRd rfl rfl (fun _ _ _ => dNil (.t .z)) rfl rfl ?_
  refine mRd rfl rfl (fun _ _ _ => dFld fld_123_0 (by decide) (.t .z) rfl) rfl rfl ?_
  refine mRd rfl rfl (fun _ _ _ => dLoad (.s .z) agg_39 (.t .z) rfl) rfl rfl ?_
  refine mRd rfl rfl (fun _ _ _ => dMove (.t (.s (.s (.s (.s (.s (.s .z)))))))) rfl rfl ?_
  refine mRd rfl rfl (fun _ _ _ => dNil (.t .z)) rfl rfl ?_
  refine mRd rfl rfl (fun _ _ _ => dFld fld_123_1 (by decide) (.t .z) rfl) rfl rfl ?_
  refine mRd rfl rfl (fun _ _ _ => dLoad (.s .z) agg_3 (.t .z) rfl) rfl rfl ?_
  refine mCallQ rfl rfl fok_13 (.c (.t (.s (.s (.s (.s .z))))) (.c (.t .z) .n)) (plane_Plane_At_c a0.f_p a0.f_at b0_1 v0_2) (.c (.s (.s .z)) (.c (.s (.s .z)) .n)) (fun _ _ => rfl) (fun _ _ => (.c (.s (.s .z)) (.c (.s (.s .z)) (.c .z (.c .z (.c .z (.c .z .nil))))))) rfl rfl fun o2 h4 => ?_
  refine mCh rfl rfl (cAlloc (cs := [vB 0, .bool false, .bool false, vB 0, vB 0]) zer_44 rfl) (fun b5 => (.c (.s .z) (.c (.s .z) (.c (.s .z) (.c (.s .z) (.c (.s .z) (.c (.s .z) (.c .z .nil)))))))) (fun _ => (.c (.c (.c (.c (.c (.c .n))))))) rfl rfl fun b5 => ?_
  refine mChU rfl rfl (uStoreA (us := [vB o2.f_Byte, .bool o2.f_GE, .bool o2.f_Start, vB o2.f_Light, vB o2.f_Color]) (cs' := [vB o2.f_Byte, .bool o2.f_GE, .bool o2.f_Start, vB o2.f_Light, vB o2.f_Color]) (.s (.s (.s (.s (.s (.s .z)))))) siz_44 rfl (by intro u hu; simp only [List.mem_cons, List.not_mem_nil, or_false] at hu; rcases hu with rfl | rfl | rfl | rfl | rfl <;> first | rfl | assumption) rfl (by simp) (.t .z) (.t (.s .z))) (.c .z (.c .z (.c .z (.c .z (.c .z (.c .z (.c .z .nil))))))) (.c (.c (.c (.c (.c (.c .n)))))) ?_
  refine mKeep (.k (.d (.d (.d (.d (.d (.d (.d (.d (.d (.k (.k (.k .n))))))))))))) ?_
  refine mNil ?_
  refine xCode ?_
  refine cSeq ?_
  refine cSeq ?_
  refine cRegion ?_
  refine lRd (dFld fld_44_2 (by decide) (.t .z) rfl) rfl rfl ?_
  refine lRd (dLoad (.s (.s (.s (.s (.s (.s .z)))))) agg_4 (.t .z) rfl) rfl rfl ?_
  refine lRd (dNot (.t .z)) rfl rfl ?_
  refine lKeep (.k (.d (.d (.k (.k (.k (.k .n))))))) ?_
  refine lNil ?_
  refine xCode ?_
  refine cCondB (.t .z) (fun h6 => ?_) (fun h6 => ?_)
  · refine cSeq ?_
    refine cRegion ?_
    refine lRdK (dAssign (.c rfl)) (.k (.k (.d (Keep.refl _)))) rfl rfl ?_
    refine lKeep (.k (.d (.k (.k (.k .n))))) ?_
    refine lNil ?_
    refine xCode ?_
    refine cRet ?_
    refine rLeave hD ?_
    exact lvRet (rs := [.tmp 4]) rfl (.t .z .n) () rfl (.c (.s .z) (.c (.s .z) (.c (.s .z) .nil)))
  · refine cSkip ?_
    refine xCode ?_
    refine cSeq ?_
    refine cRegion ?_
    refine lRd (dMove (.t (.s (.s (.s (.s .z)))))) rfl rfl ?_
    refine lRd (dLoadA (us := [vB o2.f_Byte, .bool o2.f_GE, .bool o2.f_Start, vB o2.f_Light, vB o2.f_Color]) (.s (.s (.s (.s (.s (.s .z)))))) agg_44 siz_44 rfl (.t (.s (.s .z))) rfl) rfl rfl ?_
    refine lRd (dFld fld_97_4 (by decide) (.t (.s (.s (.s (.s (.s .z)))))) rfl) rfl rfl ?_
    refine lRd (dLoad .z agg_95 (.t .z) rfl) rfl rfl ?_
    refine lCall fok_96 (.c (.t (.s (.s .z))) (.c (.t .z) .n)) (attr_Dress_c K o2 a1.f_Pairs v1_0) (.r (.s (.s (.s (.s .z)))) .n) rfl rfl fun o7 x8 h9 => ?_
    refine lCallN fok_94 (.c (.t (.s (.s (.s (.s .z))))) (.c (.t .z) .n)) (paint_brush_lay_c a0 o7 b0_0 b0_1 v0_2) (.c (.s .z) (.c (.s .z) (.c (.s .z) .n))) rfl fun o10 x11 h12 => ?_
    refine lKeep (.d (.d (.d (.d (.d (.d (.d (.k .n)))))))) ?_
    refine lNil ?_
    refine xCode ?_
    refine cSeq ?_
    refine cRegion ?_
    refine lRdK (dAssign (.c rfl)) (.d (Keep.refl _)) rfl rfl ?_
    refine lNil ?_
    refine xCode ?_
    refine cRet ?_
    refine rLeave hD ?_
    exact lvRet (rs := [.tmp 4]) rfl (.t .z .n) () rfl (.c .z (.c .z (.c .z .nil)))

-- (*greenscreen/plane.Plane).Point
def plane_Plane_Point_m (a0 : plane_Plane) (a1 : Int) : Option (plane_Plane × Bool) := (plane_Plane_has_m a0 a1).bind fun o1 => (if (!o1) = true then some (a0, false) else some ((⟨a0.f_size, a0.f_cells, a1⟩ : plane_Plane), true))
theorem plane_Plane_Point_c (a0 : plane_Plane) (a1 : Int) (b0_0 : Nat) (v0_1 : Value) : Con Try.prog 57 #[.pointer (some ⟨b0_0, 0, none⟩), .int .i64 a1] [.blk b0_0 [.int .i64 a0.f_size.f_Rows, .int .i64 a0.f_size.f_Cols, v0_1, .int .i64 a0.f_cursor] 66, .own v0_1 44 k_api_Cell a0.f_cells] (plane_Plane_Point_m a0 a1) (fun (o : plane_Plane × Bool) (x : Unit) => .bool o.2) (fun (o : plane_Plane × Bool) (x : Unit) => [.blk b0_0 [.int .i64 o.1.f_size.f_Rows, .int .i64 o.1.f_size.f_Cols, v0_1, .int .i64 o.1.f_cursor] 66, .own v0_1 44 k_api_Cell o.1.f_cells]) := by
  unfold plane_Plane_Point_m
  refine con (args := [.pointer (some ⟨b0_0, 0, none⟩), .int .i64 a1]) Try.func57 rfl 13 rfl (.c (.c .n)) rfl fun c hD hrn => ?_
  refine cSeq ?_
  refine cRegion ?_
  refine lRd (dAssign (.c rfl)) rfl rfl ?_
  refine lNil ?_
  refine xCode ?_
  refine cSeq ?_
  refine cSeq ?_
  refine cRegion ?_
  refine lRd (dMove (.t (.s .z))) rfl rfl ?_
  refine lRd (dMove (.t (.s (.s (.s .z))))) rfl rfl ?_
  refine lCall fok_21 (.c (.t (.s .z)) (.c (.t .z) .n)) (plane_Plane_has_c a0 a1 b0_0 v0_1) (.c .z (.c .z .n)) rfl rfl fun o1 x2 h3 => ?_
  refine lRd (dNot (.t .z)) rfl rfl ?_
  refine lKeep (.k (.d (.d (.d (.k (.k (.k .n))))))) ?_
  refine lNil ?_
  refine xCode ?_
  refine cCondB (.t .z) (fun h4 => ?_) (fun h4 => ?_)
  · refine cSeq ?_
    refine cRegion ?_
    refine lRdK (dAssign (.c rfl)) (.k (.d (Keep.refl _))) rfl rfl ?_
    refine lKeep (.k (.d (.k (.k .n)))) ?_
    refine lNil ?_
    refine xCode ?_
    refine cRet ?_
    refine rLeave hD ?_
    exact lvRet (rs := [.tmp 4]) rfl (.t .z .n) () rfl (.c .z (.c .z .nil))
  · refine cSkip ?_
    refine xCode ?_
    refine cSeq ?_
    refine cRegion ?_
    refine lRd (dMove (.t (.s (.s .z)))) rfl rfl ?_
    refine lRd (dMove (.t (.s (.s (.s (.s .z)))))) rfl rfl ?_
    refine lRd (dNil (.t (.s .z))) rfl rfl ?_
    refine lRd (dFld fld_66_2 (by decide) (.t .z) rfl) rfl rfl ?_
    refine lChU (uStore .z siz_3 rfl (.s (.s (.s .z))) (.t .z) (.t (.s (.s .z)))) ?_
    refine lKeep (.d (.d (.d (.d (.d (.k .n)))))) ?_
    refine lNil ?_
    refine xCode ?_
    refine cSeq ?_
    refine cRegion ?_
    refine lRdK (dAssign (.c rfl)) (.d (Keep.refl _)) rfl rfl ?_
    refine lNil ?_
    refine xCode ?_
    refine cRet ?_
    refine rLeave hD ?_
    exact lvRet (rs := [.tmp 4]) rfl (.t .z .n) () rfl (.c .z (.c .z .nil))

-- (*greenscreen/paint.brush).cursor
def paint_brush_cursor_m (a0 : paint_brush) (a1 : api_Order) : Option (paint_brush × Int) := (plane_Plane_Point_m a0.f_p a0.f_at).bind fun o2 => some ((⟨o2.1, a0.f_at, a0.f_look, a0.f_laid⟩ : paint_brush), 0)
theorem paint_brush_cursor_c (a0 : paint_brush) (a1 : api_Order) (b0_0 : Nat) (b0_1 : Nat) (v0_2 : Value) (v1_0 : Value) (v1_1 : Value) : Con Try.prog 87 #[.pointer (some ⟨b0_0, 0, none⟩), .agg #[vB a1.f_Kind, .int .i64 a1.f_Addr, vB a1.f_Byte, .bool a1.f_GE, v1_0, v1_1]] [.blk b0_0 [.pointer (some ⟨b0_1, 0, none⟩), .int .i64 a0.f_at, vB a0.f_look.f_Byte, .bool a0.f_look.f_GE, .bool a0.f_look.f_Start, vB a0.f_look.f_Light, vB a0.f_look.f_Color, .bool a0.f_laid] 123, .blk b0_1 [.int .i64 a0.f_p.f_size.f_Rows, .int .i64 a0.f_p.f_size.f_Cols, v0_2, .int .i64 a0.f_p.f_cursor] 66, .own v0_2 44 k_api_Cell a0.f_p.f_cells, .ro (kSl k_api_Pair) [v1_0] a1.f_Pairs, .ro (kSl kB) [v1_1] a1.f_Data] (paint_brush_cursor_m a0 a1) (fun (o : paint_brush × Int) (x : Unit) => .int .i64 o.2) (fun (o : paint_brush × Int) (x : Unit) => [.blk b0_0 [.pointer (some ⟨b0_1, 0, none⟩), .int .i64 o.1.f_at, vB o.1.f_look.f_Byte, .bool o.1.f_look.f_GE, .bool o.1.f_look.f_Start, vB o.1.f_look.f_Light, vB o.1.f_look.f_Color, .bool o.1.f_laid] 123, .blk b0_1 [.int .i64 o.1.f_p.f_size.f_Rows, .int .i64 o.1.f_p.f_size.f_Cols, v0_2, .int .i64 o.1.f_p.f_cursor] 66, .own v0_2 44 k_api_Cell o.1.f_p.f_cells]) := by
  unfold paint_brush_cursor_m
  refine con (args := [.pointer (some ⟨b0_0, 0, none⟩), .agg #[vB a1.f_Kind, .int .i64 a1.f_Addr, vB a1.f_Byte, .bool a1.f_GE, v1_0, v1_1]]) Try.func87 rfl 14 rfl (.c (.c .n)) rfl fun c hD hrn => ?_
  refine cSeq ?_
  refine cRegion ?_
  refine lChN (cBox (cs := [vB a1.f_Kind, .int .i64 a1.f_Addr, vB a1.f_Byte, .bool a1.f_GE, v1_0, v1_1]) (.t (.s .z)) rfl) rfl fun b1 => ?_
  refine lRd (dAssign (.c rfl)) rfl rfl ?_
  refine lKeep (.k (.k .n)) ?_
  refine lNil ?_
  refine xCode ?_
  refine cSeq ?_
  refine cRegionM [8] [(0, .early), (1, .early), (2, .early), (3, .early), (4, .early), (5, .early), (6, .early), (7, .early), (8, .only)] mixed (by kernel_rfl) (.c .z (.c .z (.c (.s (.s .z)) (.c (.s (.s .z)) (.c .z (.c .z .nil)))))) (.c (.c (.c (.c .n)))) ?_
  refine mRd rfl rfl (fun _ _ _ => dMove (.t (.s .z))) rfl rfl ?_
  refine mRd rfl rfl (fun _ _ _ => dNil (.t .z)) rfl rfl ?_
  refine mRd rfl rfl (fun _ _ _ => dFld fld_123_0 (by decide) (.t .z) rfl) rfl rfl ?_
  refine mRd rfl rfl (fun _ _ _ => dLoad (.s .z) agg_39 (.t .z) rfl) rfl rfl ?_
  refine mRd rfl rfl (fun _ _ _ => dMove (.t (.s (.s (.s (.s (.s .z))))))) rfl rfl ?_
  refine mRd rfl rfl (fun _ _ _ => dNil (.t .z)) rfl rfl ?_
  refine mRd rfl rfl (fun _ _ _ => dFld fld_123_1 (by decide) (.t .z) rfl) rfl rfl ?_
  refine mRd rfl rfl (fun _ _ _ => dLoad (.s .z) agg_3 (.t .z) rfl) rfl rfl ?_
  refine mCallN rfl rfl fok_57 (.c (.t (.s (.s (.s (.s .z))))) (.c (.t .z) .n)) (plane_Plane_Point_c a0.f_p a0.f_at b0_1 v0_2) (.c (.s (.s (.s (.s .z)))) (.c (.s (.s (.s (.s .z)))) .n)) (fun o2 x3 => (.c (.s (.s .z)) (.c (.s (.s .z)) (.c (.s (.s .z)) (.c (.s (.s .z)) (.c .z (.c .z .nil))))))) (fun _ _ => (.c (.c (.c (.c .n))))) rfl fun o2 x3 h4  => ?_
  refine mKeep (.d (.d (.d (.d (.d (.d (.d (.d (.k .n))))))))) ?_
  refine mNil ?_
  refine xCode ?_
  refine cSeq ?_
  refine cRegion ?_
  refine lRdK (dAssign (.c rfl)) (.d (Keep.refl _)) rfl rfl ?_
  refine lNil ?_
  refine xCode ?_
  refine cRet ?_
  refine rLeave hD ?_
  exact lvRet (rs := [.tmp 4]) rfl (.t .z .n) () rfl (.c (.s .z) (.c (.s (.s (.s .z))) (.c (.s (.s (.s .z))) .nil)))

-- greenscreen/attr.Protected
def attr_Protected_m (a0 : UInt8) : Option (Bool) := some (decide ((a0 &&& (32 : UInt8)) ≠ (0 : UInt8)))
theorem attr_Protected_c (a0 : UInt8) : Con Try.prog 55 #[vB a0] [] (attr_Protected_m a0) (fun (o : Bool) (x : Unit) => .bool o) (fun (o : Bool) (x : Unit) => []) := by
  unfold attr_Protected_m
  refine con (args := [vB a0]) Try.func55 rfl 6 rfl (.c .n) rfl fun c hD hrn => ?_
  refine cSeq ?_
  refine cRegion ?_
  refine lRd (dAssign (.c rfl)) rfl rfl ?_
  refine lNil ?_
  refine xCode ?_
  refine cSeq ?_
  refine cRegion ?_
  refine lRd (dMove (.t (.s .z))) rfl rfl ?_
  refine lRd (dAndB (.t .z) (.c (v' := vB 32) rfl)) rfl rfl ?_
  refine lRd (dNeB (.t .z) (.c (v' := vB 0) rfl)) rfl rfl ?_
  refine lRdK (dAssign (.t .z)) (.k (.k (.k (.d (Keep.refl _))))) rfl rfl ?_
  refine lKeep (.k .n) ?_
  refine lNil ?_
  refine xCode ?_
  refine cRet ?_
  refine rLeave hD ?_
  exact lvRet (rs := [.tmp 2]) rfl (.t .z .n) () rfl .nil

-- (*greenscreen/paint.brush).rest
def paint_brush_rest_l1 (K : Nat) : Nat → (Int × Int × Int × (List api_Cell) × Int) → Option (Int × Int × (List api_Cell) × Int)
  | 0, _ => none
  | n + 1, s1 => ((plane_Plane_Len_m (⟨(⟨s1.2.1, s1.2.2.1⟩ : api_Size), s1.2.2.2.1, s1.2.2.2.2⟩ : plane_Plane)).bind fun o6 => (if s1.1 < o6 then (plane_Plane_At_m (⟨(⟨s1.2.1, s1.2.2.1⟩ : api_Size), s1.2.2.2.1, s1.2.2.2.2⟩ : plane_Plane) s1.1).bind fun o10 => some ((!o10.f_Start), (decide (s1.1 < o6)), (decide (s1.1 < o6)), o6) else some (false, (decide (s1.1 < o6)), (decide (s1.1 < o6)), o6))).bind fun (s13 : Bool × Bool × Bool × Int) => (if s13.1 = true then (plane_Plane_Set_m (⟨(⟨s1.2.1, s1.2.2.1⟩ : api_Size), s1.2.2.2.1, s1.2.2.2.2⟩ : plane_Plane) s1.1 (⟨0, false, false, 0, 0⟩ : api_Cell)).bind fun o16 => (paint_brush_rest_l1 K n) (w64 (s1.1 + 1), o16.1.f_size.f_Rows, o16.1.f_size.f_Cols, o16.1.f_cells, o16.1.f_cursor) else some (s1.2.1, s1.2.2.1, s1.2.2.2.1, s1.2.2.2.2))
def paint_brush_rest_m (K : Nat) (a0 : paint_brush) : Option (paint_brush) := (paint_brush_rest_l1 K K (a0.f_at, a0.f_p.f_size.f_Rows, a0.f_p.f_size.f_Cols, a0.f_p.f_cells, a0.f_p.f_cursor)).bind fun (s19 : Int × Int × (List api_Cell) × Int) => some (⟨(⟨(⟨s19.1, s19.2.1⟩ : api_Size), s19.2.2.1, s19.2.2.2⟩ : plane_Plane), a0.f_at, a0.f_look, a0.f_laid⟩ : paint_brush)
theorem paint_brush_rest_c (K : Nat) (a0 : paint_brush) (b0_0 : Nat) (b0_1 : Nat) (v0_2 : Value) : Con Try.prog 97 #[.pointer (some ⟨b0_0, 0, none⟩)] [.blk b0_0 [.pointer (some ⟨b0_1, 0, none⟩), .int .i64 a0.f_at, vB a0.f_look.f_Byte, .bool a0.f_look.f_GE, .bool a0.f_look.f_Start, vB a0.f_look.f_Light, vB a0.f_look.f_Color, .bool a0.f_laid] 123, .blk b0_1 [.int .i64 a0.f_p.f_size.f_Rows, .int .i64 a0.f_p.f_size.f_Cols, v0_2, .int .i64 a0.f_p.f_cursor] 66, .own v0_2 44 k_api_Cell a0.f_p.f_cells] (paint_brush_rest_m K a0) (fun (o : paint_brush) (x : Unit) => .tuple #[]) (fun (o : paint_brush) (x : Unit) => [.blk b0_0 [.pointer (some ⟨b0_1, 0, none⟩), .int .i64 o.f_at, vB o.f_look.f_Byte, .bool o.f_look.f_GE, .bool o.f_look.f_Start, vB o.f_look.f_Light, vB o.f_look.f_Color, .bool o.f_laid] 123, .blk b0_1 [.int .i64 o.f_p.f_size.f_Rows, .int .i64 o.f_p.f_size.f_Cols, v0_2, .int .i64 o.f_p.f_cursor] 66, .own v0_2 44 k_api_Cell o.f_p.f_cells]) := by
  unfold paint_brush_rest_m
  refine con (args := [.pointer (some ⟨b0_0, 0, none⟩)]) Try.func97 rfl 33 rfl (.c .n) rfl fun c hD hrn => ?_
  refine cSeq ?_
  refine cRegion ?_
  refine lRd (dMove (.t .z)) rfl rfl ?_
  refine lRd (dNil (.t .z)) rfl rfl ?_
  refine lRd (dFld fld_123_1 (by decide) (.t .z) rfl) rfl rfl ?_
  refine lRd (dLoad .z agg_3 (.t .z) rfl) rfl rfl ?_
  refine lRd (dAssign (.t .z)) rfl rfl ?_
  refine lKeep (.k (.d (.d (.d (.d (.k .n)))))) ?_
  refine lNil ?_
  refine xCode ?_
  refine cLoopB (S := Int × Int × Int × (List api_Cell) × Int) (X := Unit) (S' := Int × Int × (List api_Cell) × Int) (X' := Unit) (paint_brush_rest_l1 K) (fun (s : Int × Int × Int × (List api_Cell) × Int) (x : Unit) => [(2, .int .i64 s.1), (0, .pointer (some ⟨b0_0, 0, none⟩))]) (fun (s : Int × Int × Int × (List api_Cell) × Int) (x : Unit) => [.blk b0_0 [.pointer (some ⟨b0_1, 0, none⟩), .int .i64 a0.f_at, vB a0.f_look.f_Byte, .bool a0.f_look.f_GE, .bool a0.f_look.f_Start, vB a0.f_look.f_Light, vB a0.f_look.f_Color, .bool a0.f_laid] 123, .blk b0_1 [.int .i64 s.2.1, .int .i64 s.2.2.1, v0_2, .int .i64 s.2.2.2.2] 66, .own v0_2 44 k_api_Cell s.2.2.2.1]) (fun (s : Int × Int × (List api_Cell) × Int) (x : Unit) => []) (fun (s : Int × Int × (List api_Cell) × Int) (x : Unit) => [.blk b0_1 [.int .i64 s.1, .int .i64 s.2.1, v0_2, .int .i64 s.2.2.2] 66, .own v0_2 44 k_api_Cell s.2.2.1, .blk b0_0 [.pointer (some ⟨b0_1, 0, none⟩), .int .i64 a0.f_at, vB a0.f_look.f_Byte, .bool a0.f_look.f_GE, .bool a0.f_look.f_Start, vB a0.f_look.f_Light, vB a0.f_look.f_Color, .bool a0.f_laid] 123]) K (a0.f_at, a0.f_p.f_size.f_Rows, a0.f_p.f_size.f_Cols, a0.f_p.f_cells, a0.f_p.f_cursor) () (.c .z (.c (.s .z) .n)) (.c .z (.c .z (.c .z .nil))) (fun _ => rfl) (fun n3 I4 h5 s1 x2 => ?_) (fun s19 x20 => ?_)
  · rw [paint_brush_rest_l1]
    refine cSeq ?_
    refine cSeq ?_
    refine cJoin (S := Bool × Bool × Bool × Int) (X := Unit) (fun (s : Bool × Bool × Bool × Int) (x : Unit) => [(23, .bool s.1), (14, .bool s.2.1), (13, .bool s.2.2.1), (12, .int .i64 s.2.2.2), (11, .pointer (some ⟨b0_1, 0, none⟩)), (10, .pointer (some ⟨b0_0, 0, none⟩)), (9, .pointer (some ⟨b0_0, 0, none⟩)), (8, .pointer (some ⟨b0_0, 0, none⟩)), (7, .int .i64 s1.1), (2, .int .i64 s1.1), (0, .pointer (some ⟨b0_0, 0, none⟩))]) (fun (s : Bool × Bool × Bool × Int) (x : Unit) => [.blk b0_1 [.int .i64 s1.2.1, .int .i64 s1.2.2.1, v0_2, .int .i64 s1.2.2.2.2] 66, .own v0_2 44 k_api_Cell s1.2.2.2.1, .blk b0_0 [.pointer (some ⟨b0_1, 0, none⟩), .int .i64 a0.f_at, vB a0.f_look.f_Byte, .bool a0.f_look.f_GE, .bool a0.f_look.f_Start, vB a0.f_look.f_Light, vB a0.f_look.f_Color, .bool a0.f_laid] 123]) ?_ (fun s13 x14 => ?_)
    · refine cRegion ?_
      refine lRd (dMove (.t .z)) rfl rfl ?_
      refine lRd (dMove (.t (.s (.s .z)))) rfl rfl ?_
      refine lRd (dNil (.t .z)) rfl rfl ?_
      refine lRd (dFld fld_123_0 (by decide) (.t .z) rfl) rfl rfl ?_
      refine lRd (dLoad .z agg_39 (.t .z) rfl) rfl rfl ?_
      refine lCall fok_12 (.c (.t .z) .n) (plane_Plane_Len_c (⟨(⟨s1.2.1, s1.2.2.1⟩ : api_Size), s1.2.2.2.1, s1.2.2.2.2⟩ : plane_Plane) b0_1 v0_2) (.c (.s .z) (.c (.s .z) .n)) rfl rfl fun o6 x7 h8 => ?_
      refine lRd (dLt (.t (.s (.s (.s (.s (.s .z)))))) (.t .z)) rfl rfl ?_
      refine lRd (dMove (.t .z)) rfl rfl ?_
      refine lCase (fun h9 => ?_) (fun h9 => ?_)
      · refine lRdG rfl .z (decide_eq_true h9) (dMove (.t (.s (.s (.s (.s (.s (.s (.s (.s (.s .z))))))))))) rfl rfl ?_
        refine lRdG rfl (.s .z) (decide_eq_true h9) (dNil (.t .z)) rfl rfl ?_
        refine lRdG rfl (.s (.s .z)) (decide_eq_true h9) (dFld fld_123_0 (by decide) (.t .z) rfl) rfl rfl ?_
        refine lRdG rfl (.s (.s (.s .z))) (decide_eq_true h9) (dLoad (.s (.s .z)) agg_39 (.t .z) rfl) rfl rfl ?_
        refine lRdG rfl (.s (.s (.s (.s .z)))) (decide_eq_true h9) (dMove (.t (.s (.s (.s (.s (.s (.s (.s (.s (.s (.s (.s (.s .z)))))))))))))) rfl rfl ?_
        refine lCallG rfl (.s (.s (.s (.s (.s .z))))) (decide_eq_true h9) fok_13 (.c (.t (.s .z)) (.c (.t .z) .n)) (plane_Plane_At_c (⟨(⟨s1.2.1, s1.2.2.1⟩ : api_Size), s1.2.2.2.1, s1.2.2.2.2⟩ : plane_Plane) s1.1 b0_1 v0_2) (.c .z (.c .z .n)) rfl rfl fun o10 x11 h12 => ?_
        refine lRdG rfl (.s (.s (.s (.s (.s (.s .z)))))) (decide_eq_true h9) (dField (u := .bool o10.f_Start) fld_44_2 (.t .z) rfl) rfl rfl ?_
        refine lRdG rfl (.s (.s (.s (.s (.s (.s (.s .z))))))) (decide_eq_true h9) (dNot (.t .z)) rfl rfl ?_
        refine lRd (dPickT (.t (.s (.s (.s (.s (.s (.s (.s (.s .z))))))))) (decide_eq_true h9) (.t .z)) rfl rfl ?_
        refine lNil ?_
        exact xJoin ((!o10.f_Start), (decide (s1.1 < o6)), (decide (s1.1 < o6)), o6) () (.c .z (.c (.s (.s (.s (.s (.s (.s (.s (.s (.s .z))))))))) (.c (.s (.s (.s (.s (.s (.s (.s (.s (.s (.s .z)))))))))) (.c (.s (.s (.s (.s (.s (.s (.s (.s (.s (.s (.s .z))))))))))) (.c (.s (.s (.s (.s (.s (.s (.s (.s (.s (.s (.s (.s .z)))))))))))) (.c (.s (.s (.s (.s (.s (.s (.s (.s (.s (.s (.s (.s (.s .z))))))))))))) (.c (.s (.s (.s (.s (.s (.s (.s (.s (.s (.s (.s (.s (.s (.s .z)))))))))))))) (.c (.s (.s (.s (.s (.s (.s (.s (.s (.s (.s (.s (.s (.s (.s (.s .z))))))))))))))) (.c (.s (.s (.s (.s (.s (.s (.s (.s (.s (.s (.s (.s (.s (.s (.s (.s .z)))))))))))))))) (.c (.s (.s (.s (.s (.s (.s (.s (.s (.s (.s (.s (.s (.s (.s (.s (.s (.s .z))))))))))))))))) (.c (.s (.s (.s (.s (.s (.s (.s (.s (.s (.s (.s (.s (.s (.s (.s (.s (.s (.s .z)))))))))))))))))) .n))))))))))) (.c .z (.c .z (.c .z .nil)))
      · refine lPass rfl .z (nbT (decide_eq_false h9)) rfl ?_
        refine lPass rfl .z (nbT (decide_eq_false h9)) rfl ?_
        refine lPass rfl .z (nbT (decide_eq_false h9)) rfl ?_
        refine lPass rfl .z (nbT (decide_eq_false h9)) rfl ?_
        refine lPass rfl .z (nbT (decide_eq_false h9)) rfl ?_
        refine lPass rfl .z (nbT (decide_eq_false h9)) rfl ?_
        refine lPass rfl .z (nbT (decide_eq_false h9)) rfl ?_
        refine lPass rfl .z (nbT (decide_eq_false h9)) rfl ?_
        refine lRd (dPickF (.t .z) (decide_eq_false h9) (.c rfl)) rfl rfl ?_
        refine lNil ?_
        exact xJoin (false, (decide (s1.1 < o6)), (decide (s1.1 < o6)), o6) () (.c .z (.c (.s .z) (.c (.s (.s .z)) (.c (.s (.s (.s .z))) (.c (.s (.s (.s (.s .z)))) (.c (.s (.s (.s (.s (.s .z))))) (.c (.s (.s (.s (.s (.s (.s .z)))))) (.c (.s (.s (.s (.s (.s (.s (.s .z))))))) (.c (.s (.s (.s (.s (.s (.s (.s (.s .z)))))))) (.c (.s (.s (.s (.s (.s (.s (.s (.s (.s .z))))))))) (.c (.s (.s (.s (.s (.s (.s (.s (.s (.s (.s .z)))))))))) .n))))))))))) (.c .z (.c .z (.c .z .nil)))
    · refine xCode ?_
      refine cCondB (.t .z) (fun h15 => ?_) (fun h15 => ?_)
      · refine cSkip ?_
        refine xCode ?_
        refine cSeq ?_
        refine cBlock ?_
        refine cRegion ?_
        refine lRd (dMove (.t (.s (.s (.s (.s (.s (.s (.s (.s (.s (.s .z)))))))))))) rfl rfl ?_
        refine lRd (dNil (.t .z)) rfl rfl ?_
        refine lRd (dFld fld_123_0 (by decide) (.t .z) rfl) rfl rfl ?_
        refine lRd (dLoad (.s (.s .z)) agg_39 (.t .z) rfl) rfl rfl ?_
        refine lRd (dMove (.t (.s (.s (.s (.s (.s (.s (.s (.s (.s (.s (.s (.s (.s .z))))))))))))))) rfl rfl ?_
        refine lRd (dBuild (cs := [vB 0, .bool false, .bool false, vB 0, vB 0]) zer_44 rfl plc_44 .n rfl) rfl rfl ?_
        refine lCallN fok_54 (.c (.t (.s (.s .z))) (.c (.t (.s .z)) (.c (.t .z) .n))) (plane_Plane_Set_c (⟨(⟨s1.2.1, s1.2.2.1⟩ : api_Size), s1.2.2.2.1, s1.2.2.2.2⟩ : plane_Plane) s1.1 (⟨0, false, false, 0, 0⟩ : api_Cell) b0_1 v0_2) (.c .z (.c .z .n)) rfl fun o16 x17 h18 => ?_
        refine lNil ?_
        refine xBlock ?_
        refine xCode ?_
        refine cRegion ?_
        refine lRd (dMove (.t (.s (.s (.s (.s (.s (.s (.s (.s (.s (.s (.s (.s (.s (.s (.s .z))))))))))))))))) rfl rfl ?_
        refine lRd (dAddI (.t .z) (.c rfl)) rfl rfl ?_
        refine lRdK (dAssign (.t .z)) (.k (.k (.k (.k (.k (.k (.k (.k (.k (.k (.k (.k (.k (.k (.k (.k (.k (.d (Keep.refl _))))))))))))))))))) rfl rfl ?_
        refine lNil ?_
        exact xRound h5 (w64 (s1.1 + 1), o16.1.f_size.f_Rows, o16.1.f_size.f_Cols, o16.1.f_cells, o16.1.f_cursor) () (.c .z (.c (.s (.s (.s (.s (.s (.s (.s (.s (.s (.s (.s (.s (.s (.s (.s (.s (.s (.s .z)))))))))))))))))) .n)) (.c (.s (.s .z)) (.c .z (.c .z .nil)))
      · refine cExit ?_
        refine xOver ?_
        refine xOverF ?_
        exact xJoin (s1.2.1, s1.2.2.1, s1.2.2.2.1, s1.2.2.2.2) () .n (.c .z (.c .z (.c .z .nil)))
  · refine xLeave hD ?_
    exact lvRet (rs := []) rfl .n () rfl (.c (.s (.s .z)) (.c .z (.c .z .nil)))

-- (*greenscreen/paint.brush).tab
def paint_brush_tab_l1 (K : Nat) (s6 : (Int × UInt8 × Bool × Bool × UInt8 × UInt8 × Bool × Int × Int × (List api_Cell) × Int)) : Nat → (Int) → Option (Sum (Unit) (paint_brush × Int))
  | 0, _ => none
  | n + 1, s8 => (plane_Plane_Len_m (⟨(⟨s6.2.2.2.2.2.2.2.1, s6.2.2.2.2.2.2.2.2.1⟩ : api_Size), s6.2.2.2.2.2.2.2.2.2.1, s6.2.2.2.2.2.2.2.2.2.2⟩ : plane_Plane)).bind fun o13 => (if s8 < o13 then (plane_Plane_At_m (⟨(⟨s6.2.2.2.2.2.2.2.1, s6.2.2.2.2.2.2.2.2.1⟩ : api_Size), s6.2.2.2.2.2.2.2.2.2.1, s6.2.2.2.2.2.2.2.2.2.2⟩ : plane_Plane) s8).bind fun o17 => ((if o17.f_Start = true then (attr_Protected_m o17.f_Byte).bind fun o22 => some (!o22) else some false)).bind fun (s25 : Bool) => (if s25 = true then (plane_Plane_Size_m (⟨(⟨s6.2.2.2.2.2.2.2.1, s6.2.2.2.2.2.2.2.2.1⟩ : api_Size), s6.2.2.2.2.2.2.2.2.2.1, s6.2.2.2.2.2.2.2.2.2.2⟩ : plane_Plane)).bind fun o28 => (addr_Move_m o28 s8 1).bind fun o31 => some (Sum.inr ((⟨(⟨(⟨s6.2.2.2.2.2.2.2.1, s6.2.2.2.2.2.2.2.2.1⟩ : api_Size), s6.2.2.2.2.2.2.2.2.2.1, s6.2.2.2.2.2.2.2.2.2.2⟩ : plane_Plane), o31, (⟨s6.2.1, s6.2.2.1, s6.2.2.2.1, s6.2.2.2.2.1, s6.2.2.2.2.2.1⟩ : api_Cell), s6.2.2.2.2.2.2.1⟩ : paint_brush), 0)) else (paint_brush_tab_l1 K s6 n) (w64 (s8 + 1))) else some (Sum.inl ()))
def paint_brush_tab_m (K : Nat) (a0 : paint_brush) (a1 : api_Order) : Option (paint_brush × Int) := ((if a0.f_laid = true then (paint_brush_rest_m K a0).bind fun o3 => some (o3.f_at, o3.f_look.f_Byte, o3.f_look.f_GE, o3.f_look.f_Start, o3.f_look.f_Light, o3.f_look.f_Color, o3.f_laid, o3.f_p.f_size.f_Rows, o3.f_p.f_size.f_Cols, o3.f_p.f_cells, o3.f_p.f_cursor) else some (a0.f_at, a0.f_look.f_Byte, a0.f_look.f_GE, a0.f_look.f_Start, a0.f_look.f_Light, a0.f_look.f_Color, a0.f_laid, a0.f_p.f_size.f_Rows, a0.f_p.f_size.f_Cols, a0.f_p.f_cells, a0.f_p.f_cursor))).bind fun (s6 : Int × UInt8 × Bool × Bool × UInt8 × UInt8 × Bool × Int × Int × (List api_Cell) × Int) => (paint_brush_tab_l1 K s6 K s6.1).bind (onS fun (s34 : Unit) => some ((⟨(⟨(⟨s6.2.2.2.2.2.2.2.1, s6.2.2.2.2.2.2.2.2.1⟩ : api_Size), s6.2.2.2.2.2.2.2.2.2.1, s6.2.2.2.2.2.2.2.2.2.2⟩ : plane_Plane), 0, (⟨s6.2.1, s6.2.2.1, s6.2.2.2.1, s6.2.2.2.2.1, s6.2.2.2.2.2.1⟩ : api_Cell), s6.2.2.2.2.2.2.1⟩ : paint_brush), 0))
theorem paint_brush_tab_c (K : Nat) (a0 : paint_brush) (a1 : api_Order) (b0_0 : Nat) (b0_1 : Nat) (v0_2 : Value) (v1_0 : Value) (v1_1 : Value) : Con Try.prog 88 #[.pointer (some ⟨b0_0, 0, none⟩), .agg #[vB a1.f_Kind, .int .i64 a1.f_Addr, vB a1.f_Byte, .bool a1.f_GE, v1_0, v1_1]] [.blk b0_0 [.pointer (some ⟨b0_1, 0, none⟩), .int .i64 a0.f_at, vB a0.f_look.f_Byte, .bool a0.f_look.f_GE, .bool a0.f_look.f_Start, vB a0.f_look.f_Light, vB a0.f_look.f_Color, .bool a0.f_laid] 123, .blk b0_1 [.int .i64 a0.f_p.f_size.f_Rows, .int .i64 a0.f_p.f_size.f_Cols, v0_2, .int .i64 a0.f_p.f_cursor] 66, .own v0_2 44 k_api_Cell a0.f_p.f_cells, .ro (kSl k_api_Pair) [v1_0] a1.f_Pairs, .ro (kSl kB) [v1_1] a1.f_Data] (paint_brush_tab_m K a0 a1) (fun (o : paint_brush × Int) (x : Unit) => .int .i64 o.2) (fun (o : paint_brush × Int) (x : Unit) => [.blk b0_0 [.pointer (some ⟨b0_1, 0, none⟩), .int .i64 o.1.f_at, vB o.1.f_look.f_Byte, .bool o.1.f_look.f_GE, .bool o.1.f_look.f_Start, vB o.1.f_look.f_Light, vB o.1.f_look.f_Color, .bool o.1.f_laid] 123, .blk b0_1 [.int .i64 o.1.f_p.f_size.f_Rows, .int .i64 o.1.f_p.f_size.f_Cols, v0_2, .int .i64 o.1.f_p.f_cursor] 66, .own v0_2 44 k_api_Cell o.1.f_p.f_cells]) := by
  unfold paint_brush_tab_m
  refine con (args := [.pointer (some ⟨b0_0, 0, none⟩), .agg #[vB a1.f_Kind, .int .i64 a1.f_Addr, vB a1.f_Byte, .bool a1.f_GE, v1_0, v1_1]]) Try.func88 rfl 53 rfl (.c (.c .n)) rfl fun c hD hrn => ?_
  refine cSeq ?_
  refine cRegion ?_
  refine lChN (cBox (cs := [vB a1.f_Kind, .int .i64 a1.f_Addr, vB a1.f_Byte, .bool a1.f_GE, v1_0, v1_1]) (.t (.s .z)) rfl) rfl fun b1 => ?_
  refine lRd (dAssign (.c rfl)) rfl rfl ?_
  refine lKeep (.k (.k .n)) ?_
  refine lNil ?_
  refine xCode ?_
  refine cSeq ?_
  refine cSeq ?_
  refine cRegion ?_
  refine lRd (dMove (.t (.s .z))) rfl rfl ?_
  refine lRd (dNil (.t .z)) rfl rfl ?_
  refine lRd (dFld fld_123_3 (by decide) (.t .z) rfl) rfl rfl ?_
  refine lRd (dLoad (.s .z) agg_4 (.t .z) rfl) rfl rfl ?_
  refine lKeep (.k (.d (.d (.d (.k (.k .n)))))) ?_
  refine lNil ?_
  refine xCode ?_
  refine cJoin (S := Int × UInt8 × Bool × Bool × UInt8 × UInt8 × Bool × Int × Int × (List api_Cell) × Int) (X := Unit) (fun (s : Int × UInt8 × Bool × Bool × UInt8 × UInt8 × Bool × Int × Int × (List api_Cell) × Int) (x : Unit) => [(4, .int .i64 0), (0, .pointer (some ⟨b0_0, 0, none⟩))]) (fun (s : Int × UInt8 × Bool × Bool × UInt8 × UInt8 × Bool × Int × Int × (List api_Cell) × Int) (x : Unit) => [.blk b0_0 [.pointer (some ⟨b0_1, 0, none⟩), .int .i64 s.1, vB s.2.1, .bool s.2.2.1, .bool s.2.2.2.1, vB s.2.2.2.2.1, vB s.2.2.2.2.2.1, .bool s.2.2.2.2.2.2.1] 123, .blk b0_1 [.int .i64 s.2.2.2.2.2.2.2.1, .int .i64 s.2.2.2.2.2.2.2.2.1, v0_2, .int .i64 s.2.2.2.2.2.2.2.2.2.2] 66, .own v0_2 44 k_api_Cell s.2.2.2.2.2.2.2.2.2.1, .blk b1 [vB a1.f_Kind, .int .i64 a1.f_Addr, vB a1.f_Byte, .bool a1.f_GE, v1_0, v1_1] 97, .ro (kSl k_api_Pair) [v1_0] a1.f_Pairs, .ro (kSl kB) [v1_1] a1.f_Data]) ?_ (fun s6 x7 => ?_)
  · refine cCondB (.t .z) (fun h2 => ?_) (fun h2 => ?_)
    · refine cRegion ?_
      refine lRd (dMove (.t (.s (.s .z)))) rfl rfl ?_
      refine lCallN fok_97 (.c (.t .z) .n) (paint_brush_rest_c K a0 b0_0 b0_1 v0_2) (.c (.s .z) (.c (.s .z) (.c (.s .z) .n))) rfl fun o3 x4 h5 => ?_
      refine lKeep (.d (.d (.k (.k .n)))) ?_
      refine lNil ?_
      exact xJoin (o3.f_at, o3.f_look.f_Byte, o3.f_look.f_GE, o3.f_look.f_Start, o3.f_look.f_Light, o3.f_look.f_Color, o3.f_laid, o3.f_p.f_size.f_Rows, o3.f_p.f_size.f_Cols, o3.f_p.f_cells, o3.f_p.f_cursor) () (.c .z (.c (.s .z) .n)) (.c .z (.c .z (.c .z (.c .z (.c .z (.c .z .nil))))))
    · refine cSkip ?_
      exact xJoin (a0.f_at, a0.f_look.f_Byte, a0.f_look.f_GE, a0.f_look.f_Start, a0.f_look.f_Light, a0.f_look.f_Color, a0.f_laid, a0.f_p.f_size.f_Rows, a0.f_p.f_size.f_Cols, a0.f_p.f_cells, a0.f_p.f_cursor) () (.c (.s .z) (.c (.s (.s .z)) .n)) (.c (.s .z) (.c (.s .z) (.c (.s .z) (.c .z (.c .z (.c .z .nil))))))
  · refine xCode ?_
    refine cSeq ?_
    refine cSeq ?_
    refine cRegion ?_
    refine lRd (dMove (.t (.s .z))) rfl rfl ?_
    refine lRd (dNil (.t .z)) rfl rfl ?_
    refine lRd (dFld fld_123_1 (by decide) (.t .z) rfl) rfl rfl ?_
    refine lRd (dLoad .z agg_3 (.t .z) rfl) rfl rfl ?_
    refine lRd (dAssign (.t .z)) rfl rfl ?_
    refine lKeep (.k (.d (.d (.d (.d (.k (.k .n))))))) ?_
    refine lNil ?_
    refine xCode ?_
    refine cLoopR (S := Int) (X := Unit) (S' := Unit) (X' := Unit) (paint_brush_tab_l1 K s6) (fun (s : Int) (x : Unit) => [(5, .int .i64 s), (4, .int .i64 0), (0, .pointer (some ⟨b0_0, 0, none⟩))]) (fun (s : Int) (x : Unit) => [.blk b0_0 [.pointer (some ⟨b0_1, 0, none⟩), .int .i64 s6.1, vB s6.2.1, .bool s6.2.2.1, .bool s6.2.2.2.1, vB s6.2.2.2.2.1, vB s6.2.2.2.2.2.1, .bool s6.2.2.2.2.2.2.1] 123, .blk b0_1 [.int .i64 s6.2.2.2.2.2.2.2.1, .int .i64 s6.2.2.2.2.2.2.2.2.1, v0_2, .int .i64 s6.2.2.2.2.2.2.2.2.2.2] 66, .own v0_2 44 k_api_Cell s6.2.2.2.2.2.2.2.2.2.1, .blk b1 [vB a1.f_Kind, .int .i64 a1.f_Addr, vB a1.f_Byte, .bool a1.f_GE, v1_0, v1_1] 97, .ro (kSl k_api_Pair) [v1_0] a1.f_Pairs, .ro (kSl kB) [v1_1] a1.f_Data]) (fun (s : Unit) (x : Unit) => [(4, .int .i64 0), (0, .pointer (some ⟨b0_0, 0, none⟩))]) (fun (s : Unit) (x : Unit) => [.blk b0_1 [.int .i64 s6.2.2.2.2.2.2.2.1, .int .i64 s6.2.2.2.2.2.2.2.2.1, v0_2, .int .i64 s6.2.2.2.2.2.2.2.2.2.2] 66, .own v0_2 44 k_api_Cell s6.2.2.2.2.2.2.2.2.2.1, .blk b0_0 [.pointer (some ⟨b0_1, 0, none⟩), .int .i64 s6.1, vB s6.2.1, .bool s6.2.2.1, .bool s6.2.2.2.1, vB s6.2.2.2.2.1, vB s6.2.2.2.2.2.1, .bool s6.2.2.2.2.2.2.1] 123, .blk b1 [vB a1.f_Kind, .int .i64 a1.f_Addr, vB a1.f_Byte, .bool a1.f_GE, v1_0, v1_1] 97, .ro (kSl k_api_Pair) [v1_0] a1.f_Pairs, .ro (kSl kB) [v1_1] a1.f_Data]) K s6.1 () (.c .z (.c (.s .z) (.c (.s (.s .z)) .n))) (.c .z (.c .z (.c .z (.c .z (.c .z (.c .z .nil)))))) (fun _ => rfl) (fun n10 I11 h12 s8 x9 => ?_) (fun s34 x35 => ?_)
    · rw [paint_brush_tab_l1]
      refine cSeq ?_
      refine cSeq ?_
      refine cRegion ?_
      refine lRd (dMove (.t .z)) rfl rfl ?_
      refine lRd (dMove (.t (.s (.s (.s .z))))) rfl rfl ?_
      refine lRd (dNil (.t .z)) rfl rfl ?_
      refine lRd (dFld fld_123_0 (by decide) (.t .z) rfl) rfl rfl ?_
      refine lRd (dLoad .z agg_39 (.t .z) rfl) rfl rfl ?_
      refine lCall fok_12 (.c (.t .z) .n) (plane_Plane_Len_c (⟨(⟨s6.2.2.2.2.2.2.2.1, s6.2.2.2.2.2.2.2.2.1⟩ : api_Size), s6.2.2.2.2.2.2.2.2.2.1, s6.2.2.2.2.2.2.2.2.2.2⟩ : plane_Plane) b0_1 v0_2) (.c (.s .z) (.c (.s .z) .n)) rfl rfl fun o13 x14 h15 => ?_
      refine lRd (dLt (.t (.s (.s (.s (.s (.s .z)))))) (.t .z)) rfl rfl ?_
      refine lNil ?_
      refine xCode ?_
      refine cCond (.t .z) (fun h16 => ?_) (fun h16 => ?_)
      · refine cSkip ?_
        refine xCode ?_
        refine cSeq ?_
        refine cBlock ?_
        refine cSeq ?_
        refine cRegion ?_
        refine lRd (dMove (.t (.s (.s (.s (.s (.s (.s (.s (.s (.s .z))))))))))) rfl rfl ?_
        refine lRd (dNil (.t .z)) rfl rfl ?_
        refine lRd (dFld fld_123_0 (by decide) (.t .z) rfl) rfl rfl ?_
        refine lRd (dLoad (.s (.s .z)) agg_39 (.t .z) rfl) rfl rfl ?_
        refine lRd (dMove (.t (.s (.s (.s (.s (.s (.s (.s (.s (.s (.s (.s .z))))))))))))) rfl rfl ?_
        refine lCall fok_13 (.c (.t (.s .z)) (.c (.t .z) .n)) (plane_Plane_At_c (⟨(⟨s6.2.2.2.2.2.2.2.1, s6.2.2.2.2.2.2.2.2.1⟩ : api_Size), s6.2.2.2.2.2.2.2.2.2.1, s6.2.2.2.2.2.2.2.2.2.2⟩ : plane_Plane) s8 b0_1 v0_2) (.c .z (.c .z .n)) rfl rfl fun o17 x18 h19 => ?_
        refine lCh (cAlloc (cs := [vB 0, .bool false, .bool false, vB 0, vB 0]) zer_44 rfl) rfl rfl fun b20 => ?_
        refine lChU (uStoreA (us := [vB o17.f_Byte, .bool o17.f_GE, .bool o17.f_Start, vB o17.f_Light, vB o17.f_Color]) (cs' := [vB o17.f_Byte, .bool o17.f_GE, .bool o17.f_Start, vB o17.f_Light, vB o17.f_Color]) .z siz_44 rfl (by intro u hu; simp only [List.mem_cons, List.not_mem_nil, or_false] at hu; rcases hu with rfl | rfl | rfl | rfl | rfl <;> first | rfl | assumption) rfl (by simp) (.t .z) (.t (.s .z))) ?_
        refine lNil ?_
        refine xCode ?_
        refine cSeq ?_
        refine cJoin (S := Bool) (X := Unit) (fun (s : Bool) (x : Unit) => [(39, .bool s), (34, .bool o17.f_Start), (33, .bool o17.f_Start), (32, .pointer (some ⟨b20, 2, none⟩)), (6, .pointer (some ⟨b20, 0, none⟩)), (31, .agg #[vB o17.f_Byte, .bool o17.f_GE, .bool o17.f_Start, vB o17.f_Light, vB o17.f_Color]), (30, .int .i64 s8), (29, .pointer (some ⟨b0_1, 0, none⟩)), (28, .pointer (some ⟨b0_0, 0, none⟩)), (27, .pointer (some ⟨b0_0, 0, none⟩)), (26, .pointer (some ⟨b0_0, 0, none⟩)), (23, .bool (decide (s8 < o13))), (22, .int .i64 o13), (21, .pointer (some ⟨b0_1, 0, none⟩)), (20, .pointer (some ⟨b0_0, 0, none⟩)), (19, .pointer (some ⟨b0_0, 0, none⟩)), (18, .pointer (some ⟨b0_0, 0, none⟩)), (17, .int .i64 s8), (5, .int .i64 s8), (4, .int .i64 0), (0, .pointer (some ⟨b0_0, 0, none⟩))]) (fun (s : Bool) (x : Unit) => [.blk b20 [vB o17.f_Byte, .bool o17.f_GE, .bool o17.f_Start, vB o17.f_Light, vB o17.f_Color] 44, .blk b0_1 [.int .i64 s6.2.2.2.2.2.2.2.1, .int .i64 s6.2.2.2.2.2.2.2.2.1, v0_2, .int .i64 s6.2.2.2.2.2.2.2.2.2.2] 66, .own v0_2 44 k_api_Cell s6.2.2.2.2.2.2.2.2.2.1, .blk b0_0 [.pointer (some ⟨b0_1, 0, none⟩), .int .i64 s6.1, vB s6.2.1, .bool s6.2.2.1, .bool s6.2.2.2.1, vB s6.2.2.2.2.1, vB s6.2.2.2.2.2.1, .bool s6.2.2.2.2.2.2.1] 123, .blk b1 [vB a1.f_Kind, .int .i64 a1.f_Addr, vB a1.f_Byte, .bool a1.f_GE, v1_0, v1_1] 97, .ro (kSl k_api_Pair) [v1_0] a1.f_Pairs, .ro (kSl kB) [v1_1] a1.f_Data]) ?_ (fun s25 x26 => ?_)
        · refine cRegion ?_
          refine lRd (dFld fld_44_2 (by decide) (.t .z) rfl) rfl rfl ?_
          refine lRd (dLoad .z agg_4 (.t .z) rfl) rfl rfl ?_
          refine lRd (dMove (.t .z)) rfl rfl ?_
          refine lCase (fun h21 => ?_) (fun h21 => ?_)
          · refine lRdG rfl .z h21 (dFld fld_44_0 (by decide) (.t (.s (.s (.s .z)))) rfl) rfl rfl ?_
            refine lRdG rfl (.s .z) h21 (dLoad .z agg_5 (.t .z) rfl) rfl rfl ?_
            refine lCallG rfl (.s (.s .z)) h21 fok_55 (.c (.t .z) .n) (attr_Protected_c o17.f_Byte) .n rfl rfl fun o22 x23 h24 => ?_
            refine lRdG rfl (.s (.s (.s .z))) h21 (dNot (.t .z)) rfl rfl ?_
            refine lRd (dPickT (.t (.s (.s (.s (.s .z))))) h21 (.t .z)) rfl rfl ?_
            refine lNil ?_
            exact xJoin (!o22) () (.c .z (.c (.s (.s (.s (.s (.s .z))))) (.c (.s (.s (.s (.s (.s (.s .z)))))) (.c (.s (.s (.s (.s (.s (.s (.s .z))))))) (.c (.s (.s (.s (.s (.s (.s (.s (.s .z)))))))) (.c (.s (.s (.s (.s (.s (.s (.s (.s (.s .z))))))))) (.c (.s (.s (.s (.s (.s (.s (.s (.s (.s (.s .z)))))))))) (.c (.s (.s (.s (.s (.s (.s (.s (.s (.s (.s (.s .z))))))))))) (.c (.s (.s (.s (.s (.s (.s (.s (.s (.s (.s (.s (.s .z)))))))))))) (.c (.s (.s (.s (.s (.s (.s (.s (.s (.s (.s (.s (.s (.s .z))))))))))))) (.c (.s (.s (.s (.s (.s (.s (.s (.s (.s (.s (.s (.s (.s (.s .z)))))))))))))) (.c (.s (.s (.s (.s (.s (.s (.s (.s (.s (.s (.s (.s (.s (.s (.s .z))))))))))))))) (.c (.s (.s (.s (.s (.s (.s (.s (.s (.s (.s (.s (.s (.s (.s (.s (.s .z)))))))))))))))) (.c (.s (.s (.s (.s (.s (.s (.s (.s (.s (.s (.s (.s (.s (.s (.s (.s (.s .z))))))))))))))))) (.c (.s (.s (.s (.s (.s (.s (.s (.s (.s (.s (.s (.s (.s (.s (.s (.s (.s (.s .z)))))))))))))))))) (.c (.s (.s (.s (.s (.s (.s (.s (.s (.s (.s (.s (.s (.s (.s (.s (.s (.s (.s (.s .z))))))))))))))))))) (.c (.s (.s (.s (.s (.s (.s (.s (.s (.s (.s (.s (.s (.s (.s (.s (.s (.s (.s (.s (.s .z)))))))))))))))))))) (.c (.s (.s (.s (.s (.s (.s (.s (.s (.s (.s (.s (.s (.s (.s (.s (.s (.s (.s (.s (.s (.s .z))))))))))))))))))))) (.c (.s (.s (.s (.s (.s (.s (.s (.s (.s (.s (.s (.s (.s (.s (.s (.s (.s (.s (.s (.s (.s (.s .z)))))))))))))))))))))) (.c (.s (.s (.s (.s (.s (.s (.s (.s (.s (.s (.s (.s (.s (.s (.s (.s (.s (.s (.s (.s (.s (.s (.s .z))))))))))))))))))))))) (.c (.s (.s (.s (.s (.s (.s (.s (.s (.s (.s (.s (.s (.s (.s (.s (.s (.s (.s (.s (.s (.s (.s (.s (.s .z)))))))))))))))))))))))) .n))))))))))))))))))))) (.c .z (.c .z (.c .z (.c .z (.c .z (.c .z (.c .z .nil)))))))
          · refine lPass rfl .z (nbT (Bool.eq_false_iff.mpr h21)) rfl ?_
            refine lPass rfl .z (nbT (Bool.eq_false_iff.mpr h21)) rfl ?_
            refine lPass rfl .z (nbT (Bool.eq_false_iff.mpr h21)) rfl ?_
            refine lPass rfl .z (nbT (Bool.eq_false_iff.mpr h21)) rfl ?_
            refine lRd (dPickF (.t .z) (Bool.eq_false_iff.mpr h21) (.c rfl)) rfl rfl ?_
            refine lNil ?_
            exact xJoin false () (.c .z (.c (.s .z) (.c (.s (.s .z)) (.c (.s (.s (.s .z))) (.c (.s (.s (.s (.s .z)))) (.c (.s (.s (.s (.s (.s .z))))) (.c (.s (.s (.s (.s (.s (.s .z)))))) (.c (.s (.s (.s (.s (.s (.s (.s .z))))))) (.c (.s (.s (.s (.s (.s (.s (.s (.s .z)))))))) (.c (.s (.s (.s (.s (.s (.s (.s (.s (.s .z))))))))) (.c (.s (.s (.s (.s (.s (.s (.s (.s (.s (.s .z)))))))))) (.c (.s (.s (.s (.s (.s (.s (.s (.s (.s (.s (.s .z))))))))))) (.c (.s (.s (.s (.s (.s (.s (.s (.s (.s (.s (.s (.s .z)))))))))))) (.c (.s (.s (.s (.s (.s (.s (.s (.s (.s (.s (.s (.s (.s .z))))))))))))) (.c (.s (.s (.s (.s (.s (.s (.s (.s (.s (.s (.s (.s (.s (.s .z)))))))))))))) (.c (.s (.s (.s (.s (.s (.s (.s (.s (.s (.s (.s (.s (.s (.s (.s .z))))))))))))))) (.c (.s (.s (.s (.s (.s (.s (.s (.s (.s (.s (.s (.s (.s (.s (.s (.s .z)))))))))))))))) (.c (.s (.s (.s (.s (.s (.s (.s (.s (.s (.s (.s (.s (.s (.s (.s (.s (.s .z))))))))))))))))) (.c (.s (.s (.s (.s (.s (.s (.s (.s (.s (.s (.s (.s (.s (.s (.s (.s (.s (.s .z)))))))))))))))))) (.c (.s (.s (.s (.s (.s (.s (.s (.s (.s (.s (.s (.s (.s (.s (.s (.s (.s (.s (.s .z))))))))))))))))))) (.c (.s (.s (.s (.s (.s (.s (.s (.s (.s (.s (.s (.s (.s (.s (.s (.s (.s (.s (.s (.s .z)))))))))))))))))))) .n))))))))))))))))))))) (.c .z (.c .z (.c .z (.c .z (.c .z (.c .z (.c .z .nil)))))))
        · refine xCode ?_
          refine cCondB (.t .z) (fun h27 => ?_) (fun h27 => ?_)
          · refine cSeq ?_
            refine cRegion ?_
            refine lRd (dMove (.t (.s (.s (.s (.s (.s (.s (.s (.s (.s (.s (.s (.s (.s (.s (.s (.s (.s (.s (.s (.s .z)))))))))))))))))))))) rfl rfl ?_
            refine lRd (dMove (.t (.s (.s (.s (.s (.s (.s (.s (.s (.s (.s (.s (.s (.s (.s (.s (.s (.s (.s (.s (.s (.s .z))))))))))))))))))))))) rfl rfl ?_
            refine lRd (dNil (.t .z)) rfl rfl ?_
            refine lRd (dFld fld_123_0 (by decide) (.t .z) rfl) rfl rfl ?_
            refine lRd (dLoad (.s (.s (.s .z))) agg_39 (.t .z) rfl) rfl rfl ?_
            refine lCall fok_10 (.c (.t .z) .n) (plane_Plane_Size_c (⟨(⟨s6.2.2.2.2.2.2.2.1, s6.2.2.2.2.2.2.2.2.1⟩ : api_Size), s6.2.2.2.2.2.2.2.2.2.1, s6.2.2.2.2.2.2.2.2.2.2⟩ : plane_Plane) b0_1 v0_2) (.c (.s .z) (.c (.s .z) .n)) rfl rfl fun o28 x29 h30 => ?_
            refine lRd (dMove (.t (.s (.s (.s (.s (.s (.s (.s (.s (.s (.s (.s (.s (.s (.s (.s (.s (.s (.s (.s (.s (.s (.s (.s (.s .z)))))))))))))))))))))))))) rfl rfl ?_
            refine lCall fok_74 (.c (.t (.s .z)) (.c (.t .z) (.c (.c rfl) .n))) (addr_Move_c o28 s8 1) .n rfl rfl fun o31 x32 h33 => ?_
            refine lRd (dNil (.t (.s (.s (.s (.s (.s (.s (.s .z))))))))) rfl rfl ?_
            refine lRd (dFld fld_123_1 (by decide) (.t .z) rfl) rfl rfl ?_
            refine lChU (uStore (.s (.s (.s .z))) siz_3 rfl (.s .z) (.t .z) (.t (.s (.s .z)))) ?_
            refine lNil ?_
            refine xCode ?_
            refine cSeq ?_
            refine cRegion ?_
            refine lRdK (dAssign (.c rfl)) (.k (.k (.k (.k (.k (.k (.k (.k (.k (.k (.k (.k (.k (.k (.k (.k (.k (.k (.k (.k (.k (.k (.k (.k (.k (.k (.k (.k (.k (.d (Keep.refl _))))))))))))))))))))))))))))))) rfl rfl ?_
            refine lNil ?_
            refine xCode ?_
            refine cRet ?_
            refine rInner ?_
            refine rLeave hD ?_
            exact lvRet (rs := [.tmp 4]) rfl (.t .z .n) () rfl (.c (.s (.s (.s .z))) (.c .z (.c .z .nil)))
          · refine cSkip ?_
            refine xBlock ?_
            refine xCode ?_
            refine cRegion ?_
            refine lRd (dMove (.t (.s (.s (.s (.s (.s (.s (.s (.s (.s (.s (.s (.s (.s (.s (.s (.s (.s (.s .z)))))))))))))))))))) rfl rfl ?_
            refine lRd (dAddI (.t .z) (.c rfl)) rfl rfl ?_
            refine lRdK (dAssign (.t .z)) (.k (.k (.k (.k (.k (.k (.k (.k (.k (.k (.k (.k (.k (.k (.k (.k (.k (.k (.k (.k (.d (Keep.refl _)))))))))))))))))))))) rfl rfl ?_
            refine lNil ?_
            exact xRound h12 (w64 (s8 + 1)) () (.c .z (.c (.s (.s (.s (.s (.s (.s (.s (.s (.s (.s (.s (.s (.s (.s (.s (.s (.s (.s (.s (.s (.s .z))))))))))))))))))))) (.c (.s (.s (.s (.s (.s (.s (.s (.s (.s (.s (.s (.s (.s (.s (.s (.s (.s (.s (.s (.s (.s (.s .z)))))))))))))))))))))) .n))) (.c (.s (.s (.s .z))) (.c (.s .z) (.c (.s .z) (.c (.s .z) (.c (.s .z) (.c (.s .z) .nil))))))
      · refine cExit ?_
        refine xOver ?_
        refine xOverF ?_
        exact xBreakR () () (.c (.s (.s (.s (.s (.s (.s (.s (.s .z)))))))) (.c (.s (.s (.s (.s (.s (.s (.s (.s (.s .z))))))))) .n)) (.c .z (.c .z (.c .z (.c .z (.c .z (.c .z .nil))))))
    · refine xCode ?_
      refine cSeq ?_
      refine cRegion ?_
      refine lRd (dMove (.t (.s .z))) rfl rfl ?_
      refine lRd (dNil (.t .z)) rfl rfl ?_
      refine lRd (dFld fld_123_1 (by decide) (.t .z) rfl) rfl rfl ?_
      refine lChU (uStore (.s (.s .z)) siz_3 rfl (.s .z) (.t .z) (.c rfl)) ?_
      refine lKeep (.d (.d (.d (.k .n)))) ?_
      refine lNil ?_
      refine xCode ?_
      refine cSeq ?_
      refine cRegion ?_
      refine lRdK (dAssign (.c rfl)) (.d (Keep.refl _)) rfl rfl ?_
      refine lNil ?_
      refine xCode ?_
      refine cRet ?_
      refine rLeave hD ?_
      exact lvRet (rs := [.tmp 4]) rfl (.t .z .n) () rfl (.c (.s (.s .z)) (.c .z (.c .z .nil)))

-- greenscreen/addr.Between
def addr_Between_m (a0 : api_Size) (a1 : Int) (a2 : Int) : Option (Int × Int × Int × Int) := some (a0.f_Rows, a0.f_Cols, a1, a2)
theorem addr_Between_c (a0 : api_Size) (a1 : Int) (a2 : Int) : Con Try.prog 99 #[.agg #[.int .i64 a0.f_Rows, .int .i64 a0.f_Cols], .int .i64 a1, .int .i64 a2] [] (addr_Between_m a0 a1 a2) (fun (o : Int × Int × Int × Int) (x : Nat × Nat × Nat) => .func (.func 101) #[] #[.pointer (some ⟨x.1, 0, none⟩), .pointer (some ⟨x.2.1, 0, none⟩), .pointer (some ⟨x.2.2, 0, none⟩)]) (fun (o : Int × Int × Int × Int) (x : Nat × Nat × Nat) => [.blk x.1 [.int .i64 o.1, .int .i64 o.2.1] 23, .blk x.2.1 [.int .i64 o.2.2.1] 3, .blk x.2.2 [.int .i64 o.2.2.2] 3]) := by
  unfold addr_Between_m
  refine con (args := [.agg #[.int .i64 a0.f_Rows, .int .i64 a0.f_Cols], .int .i64 a1, .int .i64 a2]) Try.func99 rfl 8 rfl (.c (.c (.c .n))) rfl fun c hD hrn => ?_
  refine cSeq ?_
  refine cRegion ?_
  refine lCh (cBox (cs := [.int .i64 a0.f_Rows, .int .i64 a0.f_Cols]) (.t .z) rfl) rfl rfl fun b1 => ?_
  refine lCh (cBox (cs := [.int .i64 a1]) (.t (.s (.s .z))) rfl) rfl rfl fun b2 => ?_
  refine lCh (cBox (cs := [.int .i64 a2]) (.t (.s (.s (.s (.s .z))))) rfl) rfl rfl fun b3 => ?_
  refine lRd (dAssign (.c rfl)) rfl rfl ?_
  refine lKeep (.k (.k (.k (.k .n)))) ?_
  refine lNil ?_
  refine xCode ?_
  refine cSeq ?_
  refine cRegion ?_
  refine lRd (dMakeFuncL (vs := [.pointer (some ⟨b1, 0, none⟩), .pointer (some ⟨b2, 0, none⟩), .pointer (some ⟨b3, 0, none⟩)]) (.c (.t (.s (.s (.s .z)))) (.c (.t (.s (.s .z))) (.c (.t (.s .z)) .n)))) rfl rfl ?_
  refine lRdK (dAssign (.t .z)) (.k (.d (Keep.refl _))) rfl rfl ?_
  refine lKeep (.k .n) ?_
  refine lNil ?_
  refine xCode ?_
  refine cRet ?_
  refine rLeave hD ?_
  exact lvRet (rs := [.tmp 6]) rfl (.t .z .n) (b1, b2, b3) rfl (.c (.s (.s .z)) (.c (.s .z) (.c .z .nil)))

-- (*greenscreen/plane.Plane).Fill
def plane_Plane_Fill_l1 (K : Nat) (a3 : api_Cell) (o4 : (Int × Int × Int × Int)) : Nat → (Int × Int × (List api_Cell)) → Option (Sum (Unit) (Sum (Int × (List api_Cell)) (Unit)))
  | 0, _ => none
  | n + 1, s23 => ((ix s23.2.2 s23.1).bind fun y28 => some (Sum.inl (s23.2.2.set (Int.toNat s23.1) a3))).bind (onE (fun (s31 : (List api_Cell)) => (addr_Move_m (⟨o4.1, o4.2.1⟩ : api_Size) s23.1 1).bind fun o34 => (if o34 = o4.2.2.2 then some (Sum.inr (Sum.inl (w64 (s23.2.1 + 1), s31))) else (plane_Plane_Fill_l1 K a3 o4 n) (o34, w64 (s23.2.1 + 1), s31))) (fun (_ : Unit) => none))
def plane_Plane_Fill_m (K : Nat) (a0 : plane_Plane) (a1 : Int) (a2 : Int) (a3 : api_Cell) : Option (plane_Plane × Int) := (addr_Between_m a0.f_size a1 a2).bind fun o4 => ((addr_Cells_m (⟨o4.1, o4.2.1⟩ : api_Size)).bind fun o14 => ((if o4.2.2.1 < 0 then some true else (if o4.2.2.1 ≥ o14 then some true else (if o4.2.2.2 < 0 then some true else some (decide (o4.2.2.2 ≥ o14)))))).bind fun (s20 : Bool) => (if s20 = true then some (Sum.inl (0, a0.f_cells)) else (plane_Plane_Fill_l1 K a3 o4 K (o4.2.2.1, 0, a0.f_cells)).bind (onS fun (s38 : Unit) => none))).bind (onE (fun (s40 : Int × (List api_Cell)) => some ((⟨a0.f_size, s40.2, a0.f_cursor⟩ : plane_Plane), s40.1)) (fun (_ : Unit) => none))
theorem plane_Plane_Fill_c (K : Nat) (a0 : plane_Plane) (a1 : Int) (a2 : Int) (a3 : api_Cell) (b0_0 : Nat) (v0_1 : Value) : Con Try.prog 98 #[.pointer (some ⟨b0_0, 0, none⟩), .int .i64 a1, .int .i64 a2, .agg #[vB a3.f_Byte, .bool a3.f_GE, .bool a3.f_Start, vB a3.f_Light, vB a3.f_Color]] [.blk b0_0 [.int .i64 a0.f_size.f_Rows, .int .i64 a0.f_size.f_Cols, v0_1, .int .i64 a0.f_cursor] 66, .own v0_1 44 k_api_Cell a0.f_cells] (plane_Plane_Fill_m K a0 a1 a2 a3) (fun (o : plane_Plane × Int) (x : Unit) => .int .i64 o.2) (fun (o : plane_Plane × Int) (x : Unit) => [.blk b0_0 [.int .i64 o.1.f_size.f_Rows, .int .i64 o.1.f_size.f_Cols, v0_1, .int .i64 o.1.f_cursor] 66, .own v0_1 44 k_api_Cell o.1.f_cells]) := by
  unfold plane_Plane_Fill_m
  refine con (args := [.pointer (some ⟨b0_0, 0, none⟩), .int .i64 a1, .int .i64 a2, .agg #[vB a3.f_Byte, .bool a3.f_GE, .bool a3.f_Start, vB a3.f_Light, vB a3.f_Color]]) Try.func98 rfl 29 rfl (.c (.c (.c (.c .n)))) rfl fun c hD hrn => ?_
  refine cSeq ?_
  refine cRegion ?_
  refine lCh (cBox (cs := [.pointer (some ⟨b0_0, 0, none⟩)]) (.t .z) rfl) rfl rfl fun b1 => ?_
  refine lCh (cBox (cs := [vB a3.f_Byte, .bool a3.f_GE, .bool a3.f_Start, vB a3.f_Light, vB a3.f_Color]) (.t (.s (.s (.s (.s .z))))) rfl) rfl rfl fun b2 => ?_
  refine lRd (dAssign (.c rfl)) rfl rfl ?_
  refine lKeep (.k (.k (.k (.d (.k (.k .n)))))) ?_
  refine lNil ?_
  refine xCode ?_
  refine cSeq ?_
  refine cRegion ?_
  refine lCh (cAlloc (cs := [.int .i64 0]) zer_3 rfl) rfl rfl fun b3 => ?_
  refine lChU (uStore .z siz_3 rfl .z (.t .z) (.c rfl)) ?_
  refine lNil ?_
  refine xCode ?_
  refine cSeq ?_
  refine cSeq ?_
  refine cRegion ?_
  refine lRd (dLoad (.s (.s .z)) agg_39 (.t (.s (.s (.s .z)))) rfl) rfl rfl ?_
  refine lRd (dNil (.t .z)) rfl rfl ?_
  refine lRd (dFld fld_66_0 (by decide) (.t .z) rfl) rfl rfl ?_
  refine lRd (dLoadA (us := [.int .i64 a0.f_size.f_Rows, .int .i64 a0.f_size.f_Cols]) (.s (.s (.s .z))) agg_23 siz_23 rfl (.t .z) rfl) rfl rfl ?_
  refine lRd (dMove (.t (.s (.s (.s (.s (.s (.s (.s (.s .z)))))))))) rfl rfl ?_
  refine lRd (dMove (.t (.s (.s (.s (.s (.s (.s (.s (.s (.s (.s .z)))))))))))) rfl rfl ?_
  refine lCall fok_99 (.c (.t (.s (.s .z))) (.c (.t (.s .z)) (.c (.t .z) .n))) (addr_Between_c a0.f_size a1 a2) .n rfl rfl fun o4 x5 h6 => ?_
  refine lKeep (.k (.d (.d (.d (.d (.d (.d (.k (.k (.k (.k .n))))))))))) ?_
  refine lNil ?_
  refine xCode ?_
  refine cBlock ?_
  refine cRange (X := (Unit) × (Unit)) (jc := .ret) (L1 := (fun (s : Int × (List api_Cell)) (x : (Unit) × (Unit)) => [.blk x5.1 [.int .i64 o4.1, .int .i64 o4.2.1] 23, .blk x5.2.1 [.int .i64 o4.2.2.1] 3, .blk x5.2.2 [.int .i64 o4.2.2.2] 3, .blk b3 [.int .i64 s.1] 3, .blk b2 [vB a3.f_Byte, .bool a3.f_GE, .bool a3.f_Start, vB a3.f_Light, vB a3.f_Color] 44, .blk b1 [.pointer (some ⟨b0_0, 0, none⟩)] 39, .blk b0_0 [.int .i64 a0.f_size.f_Rows, .int .i64 a0.f_size.f_Cols, v0_1, .int .i64 a0.f_cursor] 66, .own v0_1 44 k_api_Cell s.2])) (L2 := (fun (s : Unit) (x : (Unit) × (Unit)) => [])) (rv := fun _ _ => .tuple #[]) (cap := [.pointer (some ⟨x5.1, 0, none⟩), .pointer (some ⟨x5.2.1, 0, none⟩), .pointer (some ⟨x5.2.2, 0, none⟩)]) hrn (.t .z) fok_101 (fun fn10 T8 D9 b7 as13 bd13 h12 h13 h11 => ?_) (fun s40 x41 D42 => ?_) (fun _ _ _ => cStuck)
  · refine con (args := [.func (.yield b7) #[] #[], .pointer (some ⟨x5.1, 0, none⟩), .pointer (some ⟨x5.2.1, 0, none⟩), .pointer (some ⟨x5.2.2, 0, none⟩)]) Try.func101 rfl 35 rfl (.c (.c (.c (.c .n)))) rfl fun c hD hrn => ?_
    refine cSeq ?_
    refine cRegion ?_
    refine lRd (dLoadA (us := [.int .i64 o4.1, .int .i64 o4.2.1]) (.s .z) agg_23 siz_23 rfl (.t (.s .z)) rfl) rfl rfl ?_
    refine lCall fok_24 (.c (.t .z) .n) (addr_Cells_c (⟨o4.1, o4.2.1⟩ : api_Size)) .n rfl rfl fun o14 x15 h16 => ?_
    refine lRd (dAssign (.t .z)) rfl rfl ?_
    refine lKeep (.k (.d (.d (.k (.k (.k (.k .n))))))) ?_
    refine lNil ?_
    refine xCode ?_
    refine cSeq ?_
    refine cSeq ?_
    refine cJoin (S := Bool) (X := Unit) (fun (s : Bool) (x : Unit) => [(24, .bool s), (0, .func (.yield b7) #[] #[]), (1, .pointer (some ⟨x5.1, 0, none⟩)), (2, .pointer (some ⟨x5.2.1, 0, none⟩)), (3, .pointer (some ⟨x5.2.2, 0, none⟩))]) (fun (s : Bool) (x : Unit) => [.obj b7 (rc fn10 T8 [18] as13 bd13 D9 .ready none), .blk x5.1 [.int .i64 o4.1, .int .i64 o4.2.1] 23, .blk x5.2.1 [.int .i64 o4.2.2.1] 3, .blk x5.2.2 [.int .i64 o4.2.2.2] 3, .blk b3 [.int .i64 0] 3, .blk b2 [vB a3.f_Byte, .bool a3.f_GE, .bool a3.f_Start, vB a3.f_Light, vB a3.f_Color] 44, .blk b1 [.pointer (some ⟨b0_0, 0, none⟩)] 39, .blk b0_0 [.int .i64 a0.f_size.f_Rows, .int .i64 a0.f_size.f_Cols, v0_1, .int .i64 a0.f_cursor] 66, .own v0_1 44 k_api_Cell a0.f_cells]) ?_ (fun s20 x21 => ?_)
    · refine cRegion ?_
      refine lRd (dLoad (.s (.s .z)) agg_3 (.t (.s (.s (.s .z)))) rfl) rfl rfl ?_
      refine lRd (dLt (.t .z) (.c rfl)) rfl rfl ?_
      refine lRd (dMove (.t .z)) rfl rfl ?_
      refine lCase (fun h17 => ?_) (fun h17 => ?_)
      · refine lPass rfl .z (nbF (decide_eq_true h17)) rfl ?_
        refine lPass rfl .z (nbF (decide_eq_true h17)) rfl ?_
        refine lPass rfl .z (nbF (decide_eq_true h17)) rfl ?_
        refine lRd (dPickT (.t .z) (decide_eq_true h17) (.c rfl)) rfl rfl ?_
        refine lRd (dMove (.t .z)) rfl rfl ?_
        refine lPass rfl .z (nbF rfl) rfl ?_
        refine lPass rfl .z (nbF rfl) rfl ?_
        refine lRd (dPickT (.t .z) rfl (.c rfl)) rfl rfl ?_
        refine lRd (dMove (.t .z)) rfl rfl ?_
        refine lPass rfl .z (nbF rfl) rfl ?_
        refine lPass rfl .z (nbF rfl) rfl ?_
        refine lPass rfl .z (nbF rfl) rfl ?_
        refine lRd (dPickT (.t .z) rfl (.c rfl)) rfl rfl ?_
        refine lKeep (.k (.d (.d (.d (.d (.d (.d (.d (.d (.k (.k (.k (.k .n))))))))))))) ?_
        refine lNil ?_
        exact xJoin true () (.c .z (.c (.s .z) (.c (.s (.s .z)) (.c (.s (.s (.s .z))) (.c (.s (.s (.s (.s .z)))) .n))))) (.c .z (.c .z (.c .z (.c .z (.c .z (.c .z (.c .z (.c .z (.c .z .nil)))))))))
      · refine lRdG rfl .z (decide_eq_false h17) (dLoad (.s (.s .z)) agg_3 (.t (.s (.s (.s (.s (.s (.s .z))))))) rfl) rfl rfl ?_
        refine lRdG rfl (.s .z) (decide_eq_false h17) (dMove (.t (.s (.s (.s (.s .z)))))) rfl rfl ?_
        refine lRdG rfl (.s (.s .z)) (decide_eq_false h17) (dGe (.t (.s .z)) (.t .z)) rfl rfl ?_
        refine lRd (dPickF (.t (.s (.s (.s .z)))) (decide_eq_false h17) (.t .z)) rfl rfl ?_
        refine lRd (dMove (.t .z)) rfl rfl ?_
        refine lCase (fun h18 => ?_) (fun h18 => ?_)
        · refine lPass rfl .z (nbF (decide_eq_true h18)) rfl ?_
          refine lPass rfl .z (nbF (decide_eq_true h18)) rfl ?_
          refine lRd (dPickT (.t .z) (decide_eq_true h18) (.c rfl)) rfl rfl ?_
          refine lRd (dMove (.t .z)) rfl rfl ?_
          refine lPass rfl .z (nbF rfl) rfl ?_
          refine lPass rfl .z (nbF rfl) rfl ?_
          refine lPass rfl .z (nbF rfl) rfl ?_
          refine lRd (dPickT (.t .z) rfl (.c rfl)) rfl rfl ?_
          refine lKeep (.k (.d (.d (.d (.d (.d (.d (.d (.d (.d (.d (.d (.k (.k (.k (.k .n)))))))))))))))) ?_
          refine lNil ?_
          exact xJoin true () (.c .z (.c (.s .z) (.c (.s (.s .z)) (.c (.s (.s (.s .z))) (.c (.s (.s (.s (.s .z)))) .n))))) (.c .z (.c .z (.c .z (.c .z (.c .z (.c .z (.c .z (.c .z (.c .z .nil)))))))))
        · refine lRdG rfl .z (decide_eq_false h18) (dLoad (.s (.s (.s .z))) agg_3 (.t (.s (.s (.s (.s (.s (.s (.s (.s (.s (.s (.s (.s .z))))))))))))) rfl) rfl rfl ?_
          refine lRdG rfl (.s .z) (decide_eq_false h18) (dLt (.t .z) (.c rfl)) rfl rfl ?_
          refine lRd (dPickF (.t (.s (.s .z))) (decide_eq_false h18) (.t .z)) rfl rfl ?_
          refine lRd (dMove (.t .z)) rfl rfl ?_
          refine lCase (fun h19 => ?_) (fun h19 => ?_)
          · refine lPass rfl .z (nbF (decide_eq_true h19)) rfl ?_
            refine lPass rfl .z (nbF (decide_eq_true h19)) rfl ?_
            refine lPass rfl .z (nbF (decide_eq_true h19)) rfl ?_
            refine lRd (dPickT (.t .z) (decide_eq_true h19) (.c rfl)) rfl rfl ?_
            refine lKeep (.k (.d (.d (.d (.d (.d (.d (.d (.d (.d (.d (.d (.d (.d (.k (.k (.k (.k .n)))))))))))))))))) ?_
            refine lNil ?_
            exact xJoin true () (.c .z (.c (.s .z) (.c (.s (.s .z)) (.c (.s (.s (.s .z))) (.c (.s (.s (.s (.s .z)))) .n))))) (.c .z (.c .z (.c .z (.c .z (.c .z (.c .z (.c .z (.c .z (.c .z .nil)))))))))
          · refine lRdG rfl .z (decide_eq_false h19) (dLoad (.s (.s (.s .z))) agg_3 (.t (.s (.s (.s (.s (.s (.s (.s (.s (.s (.s (.s (.s (.s (.s (.s (.s .z))))))))))))))))) rfl) rfl rfl ?_
            refine lRdG rfl (.s .z) (decide_eq_false h19) (dMove (.t (.s (.s (.s (.s (.s (.s (.s (.s (.s (.s (.s (.s (.s .z))))))))))))))) rfl rfl ?_
            refine lRdG rfl (.s (.s .z)) (decide_eq_false h19) (dGe (.t (.s .z)) (.t .z)) rfl rfl ?_
            refine lRd (dPickF (.t (.s (.s (.s .z)))) (decide_eq_false h19) (.t .z)) rfl rfl ?_
            refine lKeep (.k (.d (.d (.d (.d (.d (.d (.d (.d (.d (.d (.d (.d (.d (.d (.d (.d (.k (.k (.k (.k .n))))))))))))))))))))) ?_
            refine lNil ?_
            exact xJoin (decide (o4.2.2.2 ≥ o14)) () (.c .z (.c (.s .z) (.c (.s (.s .z)) (.c (.s (.s (.s .z))) (.c (.s (.s (.s (.s .z)))) .n))))) (.c .z (.c .z (.c .z (.c .z (.c .z (.c .z (.c .z (.c .z (.c .z .nil)))))))))
    · refine xCode ?_
      refine cCondB (.t .z) (fun h22 => ?_) (fun h22 => ?_)
      · refine cRet ?_
        exact rDone (rs := []) rfl .n hD ((), ()) rfl (.c .z (.c .z (.c .z (.c .z (.c .z (.c .z (.c .z (.c .z (.c .z .nil)))))))))
      · refine cSkip ?_
        refine xCode ?_
        refine cSeq ?_
        refine cRegion ?_
        refine lRd (dLoad (.s (.s .z)) agg_3 (.t (.s (.s (.s .z)))) rfl) rfl rfl ?_
        refine lRd (dAssign (.t .z)) rfl rfl ?_
        refine lKeep (.k (.d (.d (.k (.k (.d (.k .n))))))) ?_
        refine lNil ?_
        refine xCode ?_
        refine cLoopR (S := Int × Int × (List api_Cell)) (X := Unit) (S' := Unit) (X' := Unit) (plane_Plane_Fill_l1 K a3 o4) (fun (s : Int × Int × (List api_Cell)) (x : Unit) => [(6, .int .i64 s.1), (0, .func (.yield b7) #[] #[]), (1, .pointer (some ⟨x5.1, 0, none⟩)), (3, .pointer (some ⟨x5.2.2, 0, none⟩))]) (fun (s : Int × Int × (List api_Cell)) (x : Unit) => [.obj b7 (rc fn10 T8 [18] as13 bd13 D9 .ready none), .blk x5.1 [.int .i64 o4.1, .int .i64 o4.2.1] 23, .blk x5.2.1 [.int .i64 o4.2.2.1] 3, .blk x5.2.2 [.int .i64 o4.2.2.2] 3, .blk b3 [.int .i64 s.2.1] 3, .blk b2 [vB a3.f_Byte, .bool a3.f_GE, .bool a3.f_Start, vB a3.f_Light, vB a3.f_Color] 44, .blk b1 [.pointer (some ⟨b0_0, 0, none⟩)] 39, .blk b0_0 [.int .i64 a0.f_size.f_Rows, .int .i64 a0.f_size.f_Cols, v0_1, .int .i64 a0.f_cursor] 66, .own v0_1 44 k_api_Cell s.2.2]) (fun (_ : Unit) (_ : Unit) => []) (fun (_ : Unit) (_ : Unit) => []) K (o4.2.2.1, 0, a0.f_cells) () (.c .z (.c (.s .z) (.c (.s (.s .z)) (.c (.s (.s (.s .z))) .n)))) (.c .z (.c .z (.c .z (.c .z (.c .z (.c .z (.c .z (.c .z (.c .z .nil))))))))) (fun _ => rfl) (fun n25 I26 h27 s23 x24 => ?_) (fun s38 x39 => ?_)
        · rw [plane_Plane_Fill_l1]
          refine cSeq ?_
          refine cSeq ?_
          refine cRegion ?_
          refine lRd (dMove (.t (.s .z))) rfl rfl ?_
          refine lRd (dMove (.t (.s .z))) rfl rfl ?_
          refine lYield (X := (Unit) × (Unit)) (jc := .ret) (L1 := (fun (s : (List api_Cell)) (x : (Unit) × (Unit)) => [.blk x5.1 [.int .i64 o4.1, .int .i64 o4.2.1] 23, .blk x5.2.1 [.int .i64 o4.2.2.1] 3, .blk x5.2.2 [.int .i64 o4.2.2.2] 3, .blk b3 [.int .i64 (w64 (s23.2.1 + 1))] 3, .blk b2 [vB a3.f_Byte, .bool a3.f_GE, .bool a3.f_Start, vB a3.f_Light, vB a3.f_Color] 44, .blk b1 [.pointer (some ⟨b0_0, 0, none⟩)] 39, .blk b0_0 [.int .i64 a0.f_size.f_Rows, .int .i64 a0.f_size.f_Cols, v0_1, .int .i64 a0.f_cursor] 66, .own v0_1 44 k_api_Cell s])) (L2 := (fun (s : Unit) (x : (Unit) × (Unit)) => [])) (.t (.s .z)) (.c (.t .z) .n) rfl (env1 h11 rfl rfl) .z rfl rfl (fun c hD hrn => ?_) (fun s31 x32 h33 => ?_) (fun _ _ _ => lStuck)
          · refine cEqC h12 ?_
            refine cRegion ?_
            refine lRd (dAssign (.t .z)) rfl rfl ?_
            refine lKeep (.k (.d (.d (.k (.d (.k (.k .n))))))) ?_
            refine lNil ?_
            refine xBegin hrn Upd.z ?_
            refine cEqC h13 ?_
            refine cBlock ?_
            refine cSeq ?_
            refine cRegionM [7] [(0, .early), (1, .early), (2, .early), (3, .early), (4, .early), (5, .early), (6, .early), (7, .only)] mixed (by kernel_rfl) (.c .z (.c .z (.c .z (.c .z (.c .z (.c .z (.c .z (.c .z (.c .z .nil))))))))) (.c (.c (.c (.c (.c (.c (.c (.c .n)))))))) ?_
            refine mRd rfl rfl (fun _ _ _ => dLoad (.s (.s (.s (.s (.s (.s .z)))))) agg_39 (.t (.s (.s (.s .z)))) rfl) rfl rfl ?_
            refine mRd rfl rfl (fun _ _ _ => dNil (.t .z)) rfl rfl ?_
            refine mRd rfl rfl (fun _ _ _ => dFld fld_66_1 (by decide) (.t .z) rfl) rfl rfl ?_
            refine mRd rfl rfl (fun _ _ _ => dLoad (.s (.s (.s (.s (.s (.s (.s .z))))))) agg_27 (.t .z) rfl) rfl rfl ?_
            refine mRd rfl rfl (fun _ _ _ => dMove (.t (.s (.s (.s (.s .z)))))) rfl rfl ?_
            refine mRd rfl rfl (fun _ _ _ => dLoadA (us := [vB a3.f_Byte, .bool a3.f_GE, .bool a3.f_Start, vB a3.f_Light, vB a3.f_Color]) (.s (.s (.s (.s (.s .z))))) agg_44 siz_44 rfl (.t (.s (.s (.s (.s (.s (.s (.s .z)))))))) rfl) rfl rfl ?_
            refine mIx fun y28 h29 h30 => ?_
            refine mRd rfl rfl (fun _ _ _ => dIxAddr (slOwn (.s (.s (.s (.s (.s (.s (.s (.s .z))))))))) und_27 siz_44 (.t (.s (.s .z))) (.t (.s .z)) h29 h30) rfl rfl ?_
            refine mChU rfl rfl (uStoreEA (us := [vB a3.f_Byte, .bool a3.f_GE, .bool a3.f_Start, vB a3.f_Light, vB a3.f_Color]) (z' := a3) (.s (.s (.s (.s (.s (.s (.s (.s .z)))))))) (.s (.s (.s (.s (.s (.s (.s (.s .z)))))))) siz_44 rfl (by intro u hu; simp only [List.mem_cons, List.not_mem_nil, or_false] at hu; rcases hu with rfl | rfl | rfl | rfl | rfl <;> first | rfl | assumption) (.t .z) (.t (.s .z)) h30 (fun _ _ cs _ h => by cases h; exact ⟨by simp, rfl⟩)) (.c .z (.c .z (.c .z (.c .z (.c .z (.c .z (.c .z (.c .z (.c .z .nil))))))))) (.c (.c (.c (.c (.c (.c (.c (.c .n)))))))) ?_
            refine mKeep (.d (.d (.d (.d (.d (.d (.d (.d (.k .n))))))))) ?_
            refine mNil ?_
            refine xCode ?_
            refine cRegion ?_
            refine lRd (dLoad (.s (.s (.s (.s .z)))) agg_3 (.t .z) rfl) rfl rfl ?_
            refine lRd (dAddI (.t .z) (.c rfl)) rfl rfl ?_
            refine lChU (uStore (.s (.s (.s (.s .z)))) siz_3 rfl .z (.t (.s (.s .z))) (.t .z)) ?_
            refine lKeep .n ?_
            refine lNil ?_
            refine xBlock ?_
            exact xRound1 (s23.2.2.set (Int.toNat s23.1) a3) ((), ()) Upd.z (.c .z (.c .z (.c .z (.c .z (.c .z (.c .z (.c .z (.c .z (.c .z .nil)))))))))
          · refine lNil ?_
            refine xCode ?_
            refine cCondT (.t .z) rfl ?_
            refine cSkip ?_
            refine xCode ?_
            refine cBlock ?_
            refine cSeq ?_
            refine cRegion ?_
            refine lRd (dLoadA (us := [.int .i64 o4.1, .int .i64 o4.2.1]) (.s .z) agg_23 siz_23 rfl (.t (.s (.s (.s (.s (.s .z)))))) rfl) rfl rfl ?_
            refine lRd (dMove (.t (.s (.s (.s (.s .z)))))) rfl rfl ?_
            refine lCall fok_74 (.c (.t (.s .z)) (.c (.t .z) (.c (.c rfl) .n))) (addr_Move_c (⟨o4.1, o4.2.1⟩ : api_Size) s23.1 1) .n rfl rfl fun o34 x35 h36 => ?_
            refine lRdK (dAssign (.t .z)) (.k (.k (.k (.k (.k (.k (.d (Keep.refl _)))))))) rfl rfl ?_
            refine lNil ?_
            refine xCode ?_
            refine cSeq ?_
            refine cRegion ?_
            refine lRd (dMove (.t .z)) rfl rfl ?_
            refine lRd (dLoad (.s (.s (.s .z))) agg_3 (.t (.s (.s (.s (.s (.s (.s (.s (.s (.s (.s .z))))))))))) rfl) rfl rfl ?_
            refine lRd (dEq (.t (.s .z)) (.t .z)) rfl rfl ?_
            refine lNil ?_
            refine xCode ?_
            refine cCond (.t .z) (fun h37 => ?_) (fun h37 => ?_)
            · refine cRet ?_
              refine rInner ?_
              exact rDone (rs := []) rfl .n hD ((), ()) rfl (.c .z (.c .z (.c .z (.c .z (.c .z (.c .z (.c .z (.c .z (.c .z .nil)))))))))
            · refine cSkip ?_
              refine xBlock ?_
              exact xRound h27 (o34, w64 (s23.2.1 + 1), s31) () (.c (.s (.s (.s .z))) (.c (.s (.s (.s (.s (.s (.s (.s (.s (.s (.s .z)))))))))) (.c (.s (.s (.s (.s (.s (.s (.s (.s (.s (.s (.s .z))))))))))) (.c (.s (.s (.s (.s (.s (.s (.s (.s (.s (.s (.s (.s .z)))))))))))) .n)))) (.c .z (.c .z (.c .z (.c .z (.c .z (.c .z (.c .z (.c .z (.c .z .nil)))))))))
        · exact fun out hm => by cases hm
  · refine xBlock ?_
    refine xCode ?_
    refine cSeq ?_
    refine cRegion ?_
    refine lRd (dLoad (.s (.s (.s (.s .z)))) agg_3 (.t (.s .z)) rfl) rfl rfl ?_
    refine lRdK (dAssign (.t .z)) (.k (.k (.k (.d (Keep.refl _))))) rfl rfl ?_
    refine lKeep (.k .n) ?_
    refine lNil ?_
    refine xCode ?_
    refine cRet ?_
    refine rLeave (congrArg (List.cons _) hD) ?_
    refine lvMark Upd.z (by simp) ?_
    exact lvRet (rs := [.tmp 8]) rfl (.t .z .n) () rfl (.c (.s (.s (.s (.s (.s (.s (.s .z))))))) (.c (.s (.s (.s (.s (.s (.s (.s .z))))))) .nil))

-- (*greenscreen/paint.brush).repeat
def paint_brush_repeat_m (K : Nat) (a0 : paint_brush) (a1 : api_Order) : Option (paint_brush × Int) := (paint_brush_jump_m a0 a1).bind fun o2 => (if o2.2 ≠ 0 then some (o2.1, o2.2) else (paint_brush_char_m o2.1 a1.f_Byte a1.f_GE).bind fun o6 => (plane_Plane_Fill_m K o2.1.f_p a0.f_at o2.1.f_at o6).bind fun o9 => some ((⟨o9.1, o2.1.f_at, o2.1.f_look, o2.1.f_laid⟩ : paint_brush), 0))
theorem paint_brush_repeat_c (K : Nat) (a0 : paint_brush) (a1 : api_Order) (b0_0 : Nat) (b0_1 : Nat) (v0_2 : Value) (v1_0 : Value) (v1_1 : Value) : Con Try.prog 89 #[.pointer (some ⟨b0_0, 0, none⟩), .agg #[vB a1.f_Kind, .int .i64 a1.f_Addr, vB a1.f_Byte, .bool a1.f_GE, v1_0, v1_1]] [.blk b0_0 [.pointer (some ⟨b0_1, 0, none⟩), .int .i64 a0.f_at, vB a0.f_look.f_Byte, .bool a0.f_look.f_GE, .bool a0.f_look.f_Start, vB a0.f_look.f_Light, vB a0.f_look.f_Color, .bool a0.f_laid] 123, .blk b0_1 [.int .i64 a0.f_p.f_size.f_Rows, .int .i64 a0.f_p.f_size.f_Cols, v0_2, .int .i64 a0.f_p.f_cursor] 66, .own v0_2 44 k_api_Cell a0.f_p.f_cells, .ro (kSl k_api_Pair) [v1_0] a1.f_Pairs, .ro (kSl kB) [v1_1] a1.f_Data] (paint_brush_repeat_m K a0 a1) (fun (o : paint_brush × Int) (x : Unit) => .int .i64 o.2) (fun (o : paint_brush × Int) (x : Unit) => [.blk b0_0 [.pointer (some ⟨b0_1, 0, none⟩), .int .i64 o.1.f_at, vB o.1.f_look.f_Byte, .bool o.1.f_look.f_GE, .bool o.1.f_look.f_Start, vB o.1.f_look.f_Light, vB o.1.f_look.f_Color, .bool o.1.f_laid] 123, .blk b0_1 [.int .i64 o.1.f_p.f_size.f_Rows, .int .i64 o.1.f_p.f_size.f_Cols, v0_2, .int .i64 o.1.f_p.f_cursor] 66, .own v0_2 44 k_api_Cell o.1.f_p.f_cells]) := by
  unfold paint_brush_repeat_m
  refine con (args := [.pointer (some ⟨b0_0, 0, none⟩), .agg #[vB a1.f_Kind, .int .i64 a1.f_Addr, vB a1.f_Byte, .bool a1.f_GE, v1_0, v1_1]]) Try.func89 rfl 33 rfl (.c (.c .n)) rfl fun c hD hrn => ?_
  refine cSeq ?_
  refine cRegion ?_
  refine lCh (cBox (cs := [vB a1.f_Kind, .int .i64 a1.f_Addr, vB a1.f_Byte, .bool a1.f_GE, v1_0, v1_1]) (.t (.s .z)) rfl) rfl rfl fun b1 => ?_
  refine lRd (dAssign (.c rfl)) rfl rfl ?_
  refine lKeep (.k (.k (.k .n))) ?_
  refine lNil ?_
  refine xCode ?_
  refine cSeq ?_
  refine cRegion ?_
  refine lRd (dMove (.t (.s (.s .z)))) rfl rfl ?_
  refine lRd (dNil (.t .z)) rfl rfl ?_
  refine lRd (dFld fld_123_1 (by decide) (.t .z) rfl) rfl rfl ?_
  refine lRd (dLoad (.s .z) agg_3 (.t .z) rfl) rfl rfl ?_
  refine lRd (dAssign (.t .z)) rfl rfl ?_
  refine lKeep (.k (.d (.d (.d (.d (.k (.k (.k .n)))))))) ?_
  refine lNil ?_
  refine xCode ?_
  refine cSeq ?_
  refine cSeq ?_
  refine cRegion ?_
  refine lRd (dMove (.t (.s (.s (.s .z))))) rfl rfl ?_
  refine lRd (dLoadA (us := [vB a1.f_Kind, .int .i64 a1.f_Addr, vB a1.f_Byte, .bool a1.f_GE, v1_0, v1_1]) .z agg_97 siz_97 rfl (.t (.s (.s (.s .z)))) rfl) rfl rfl ?_
  refine lCall fok_83 (.c (.t (.s .z)) (.c (.t .z) .n)) (paint_brush_jump_c a0 a1 b0_0 b0_1 v0_2 v1_0 v1_1) (.c (.s .z) (.c (.s .z) (.c (.s .z) (.r (.s .z) (.r (.s (.s .z)) .n))))) rfl rfl fun o2 x3 h4 => ?_
  refine lRd (dAssign (.t .z)) rfl rfl ?_
  refine lKeep (.k (.d (.d (.d (.k (.k (.k (.k .n)))))))) ?_
  refine lNil ?_
  refine xCode ?_
  refine cSeq ?_
  refine cRegion ?_
  refine lRd (dMove (.t .z)) rfl rfl ?_
  refine lRd (dNe (.t .z) (.c rfl)) rfl rfl ?_
  refine lKeep (.k (.d (.k (.k (.k (.k (.k .n))))))) ?_
  refine lNil ?_
  refine xCode ?_
  refine cCond (.t .z) (fun h5 => ?_) (fun h5 => ?_)
  · refine cSeq ?_
    refine cRegion ?_
    refine lRd (dMove (.t (.s .z))) rfl rfl ?_
    refine lRdK (dAssign (.t .z)) (.k (.k (.k (.k (.d (Keep.refl _)))))) rfl rfl ?_
    refine lKeep (.k (.d (.d (.d (.k (.k (.k .n))))))) ?_
    refine lNil ?_
    refine xCode ?_
    refine cRet ?_
    refine rLeave hD ?_
    exact lvRet (rs := [.tmp 4]) rfl (.t .z .n) () rfl (.c .z (.c .z (.c .z .nil)))
  · refine cSkip ?_
    refine xCode ?_
    refine cSeq ?_
    refine cRegionM [15] [(0, .early), (1, .early), (2, .early), (3, .early), (4, .early), (5, .early), (6, .early), (7, .early), (8, .early), (9, .early), (10, .early), (11, .early), (12, .early), (13, .early), (14, .early), (15, .only)] mixed (by kernel_rfl) (.c .z (.c (.s (.s .z)) (.c (.s (.s .z)) (.c (.s (.s .z)) (.c .z (.c .z .nil)))))) (.c (.c (.c (.c .n)))) ?_
    refine mRd rfl rfl (fun _ _ _ => dMove (.t (.s (.s (.s (.s (.s .z))))))) rfl rfl ?_
    refine mRd rfl rfl (fun _ _ _ => dNil (.t .z)) rfl rfl ?_
    refine mRd rfl rfl (fun _ _ _ => dFld fld_123_0 (by decide) (.t .z) rfl) rfl rfl ?_
    refine mRd rfl rfl (fun _ _ _ => dLoad .z agg_39 (.t .z) rfl) rfl rfl ?_
    refine mRd rfl rfl (fun _ _ _ => dMove (.t (.s (.s (.s (.s (.s (.s .z)))))))) rfl rfl ?_
    refine mRd rfl rfl (fun _ _ _ => dMove (.t (.s (.s (.s (.s (.s (.s (.s (.s (.s (.s .z)))))))))))) rfl rfl ?_
    refine mRd rfl rfl (fun _ _ _ => dNil (.t .z)) rfl rfl ?_
    refine mRd rfl rfl (fun _ _ _ => dFld fld_123_1 (by decide) (.t .z) rfl) rfl rfl ?_
    refine mRd rfl rfl (fun _ _ _ => dLoad .z agg_3 (.t .z) rfl) rfl rfl ?_
    refine mRd rfl rfl (fun _ _ _ => dMove (.t (.s (.s (.s (.s (.s (.s (.s (.s (.s (.s (.s (.s (.s (.s .z)))))))))))))))) rfl rfl ?_
    refine mRd rfl rfl (fun _ _ _ => dFld fld_97_2 (by decide) (.t (.s (.s (.s (.s (.s (.s (.s (.s (.s (.s (.s (.s (.s (.s .z))))))))))))))) rfl) rfl rfl ?_
    refine mRd rfl rfl (fun _ _ _ => dLoad (.s .z) agg_5 (.t .z) rfl) rfl rfl ?_
    refine mRd rfl rfl (fun _ _ _ => dFld fld_97_3 (by decide) (.t (.s (.s (.s (.s (.s (.s (.s (.s (.s (.s (.s (.s (.s (.s (.s (.s .z))))))))))))))))) rfl) rfl rfl ?_
    refine mRd rfl rfl (fun _ _ _ => dLoad (.s .z) agg_4 (.t .z) rfl) rfl rfl ?_
    refine mCallQ rfl rfl fok_95 (.c (.t (.s (.s (.s (.s .z))))) (.c (.t (.s (.s .z))) (.c (.t .z) .n))) (paint_brush_char_c o2.1 a1.f_Byte a1.f_GE b0_0 b0_1 v0_2) (.c .z (.c (.s (.s (.s .z))) (.c (.s (.s (.s .z))) .n))) (fun _ _ => rfl) (fun _ _ => (.c .z (.c (.s (.s .z)) (.c (.s (.s .z)) (.c (.s (.s .z)) (.c .z (.c .z .nil))))))) rfl rfl fun o6 h8 => ?_
    refine mCallN rfl rfl fok_98 (.c (.t (.s (.s (.s (.s (.s (.s (.s (.s (.s (.s (.s .z)))))))))))) (.c (.t (.s (.s (.s (.s (.s (.s (.s (.s (.s (.s .z))))))))))) (.c (.t (.s (.s (.s (.s (.s (.s .z))))))) (.c (.t .z) .n)))) (plane_Plane_Fill_c K o2.1.f_p a0.f_at o2.1.f_at o6 b0_1 v0_2) (.c (.s (.s (.s (.s .z)))) (.c (.s (.s (.s (.s .z)))) .n)) (fun o9 x10 => (.c (.s (.s .z)) (.c (.s (.s .z)) (.c (.s (.s .z)) (.c (.s (.s .z)) (.c .z (.c .z .nil))))))) (fun _ _ => (.c (.c (.c (.c .n))))) rfl fun o9 x10 h11  => ?_
    refine mKeep (.d (.d (.d (.d (.d (.d (.d (.d (.d (.d (.d (.d (.d (.d (.d (.d (.d (.d (.k .n))))))))))))))))))) ?_
    refine mNil ?_
    refine xCode ?_
    refine cSeq ?_
    refine cRegion ?_
    refine lRdK (dAssign (.c rfl)) (.d (Keep.refl _)) rfl rfl ?_
    refine lNil ?_
    refine xCode ?_
    refine cRet ?_
    refine rLeave hD ?_
    exact lvRet (rs := [.tmp 4]) rfl (.t .z .n) () rfl (.c .z (.c (.s (.s (.s .z))) (.c (.s (.s (.s .z))) .nil)))

-- greenscreen/field.Before
def field_Before_m (K : Nat) (a0 : plane_Plane) (a1 : Int) : Option (Int) := (field_look_m K a0 a1 (-1)).bind fun o1 => some o1
theorem field_Before_c (K : Nat) (a0 : plane_Plane) (a1 : Int) (b0_0 : Nat) (v0_1 : Value) : Con Try.prog 91 #[.pointer (some ⟨b0_0, 0, none⟩), .int .i64 a1] [.blk b0_0 [.int .i64 a0.f_size.f_Rows, .int .i64 a0.f_size.f_Cols, v0_1, .int .i64 a0.f_cursor] 66, .own v0_1 44 k_api_Cell a0.f_cells] (field_Before_m K a0 a1) (fun (o : Int) (x : Unit) => .int .i64 o) (fun (o : Int) (x : Unit) => [.blk b0_0 [.int .i64 a0.f_size.f_Rows, .int .i64 a0.f_size.f_Cols, v0_1, .int .i64 a0.f_cursor] 66, .own v0_1 44 k_api_Cell a0.f_cells]) := by
  unfold field_Before_m
  refine con (args := [.pointer (some ⟨b0_0, 0, none⟩), .int .i64 a1]) Try.func91 rfl 8 rfl (.c (.c .n)) rfl fun c hD hrn => ?_
  refine cSeq ?_
  refine cRegion ?_
  refine lRd (dAssign (.c rfl)) rfl rfl ?_
  refine lNil ?_
  refine xCode ?_
  refine cSeq ?_
  refine cRegion ?_
  refine lRd (dMove (.t (.s .z))) rfl rfl ?_
  refine lRd (dMove (.t (.s (.s (.s .z))))) rfl rfl ?_
  refine lCall fok_93 (.c (.t (.s .z)) (.c (.t .z) (.c (.c rfl) .n))) (field_look_c K a0 a1 (-1) b0_0 v0_1) (.c .z (.c .z .n)) rfl rfl fun o1 x2 h3 => ?_
  refine lRdK (dAssign (.t .z)) (.k (.k (.k (.d (Keep.refl _))))) rfl rfl ?_
  refine lKeep (.k .n) ?_
  refine lNil ?_
  refine xCode ?_
  refine cRet ?_
  refine rLeave hD ?_
  exact lvRet (rs := [.tmp 4]) rfl (.t .z .n) () rfl (.c .z (.c .z .nil))

end Go.Proofs.Ytecipnjloenndaa.G
