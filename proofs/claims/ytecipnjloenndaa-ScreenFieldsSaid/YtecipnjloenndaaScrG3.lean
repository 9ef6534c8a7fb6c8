/-
The walk of the seat, by program: each function's model, and its contract. Part 3.
-/
import Derived.Test.YtecipnjloenndaaScrG2
import Derived.Test.YtecipnjloenndaaProg
set_option linter.unusedVariables false
set_option linter.unusedSimpArgs false
set_option maxRecDepth 20000
set_option maxHeartbeats 2000000
namespace Go.Proofs.Ytecipnjloenndaa.G
open Go Go.RowKit Go.Proofs.Ytecipnjloenndaa.SX
-- (*greenscreen/screen.Screen).Do
def screen_Screen_Do_f_m (K : Nat) (R_screen_Screen_Do : (screen_Screen → command_Command → Option (screen_Screen × screen_Result))) (a0 : screen_Screen) (a1 : command_Command) : Option (screen_Screen × screen_Result) := (if a1.f_Kind = (241 : UInt8) then (command_Clean_m a1.f_WCC).bind fun o4 => ((if o4 = true then (field_Unmark_m K a0.f_p).bind fun o8 => some (o8.1.f_size.f_Rows, o8.1.f_size.f_Cols, o8.1.f_cells, o8.1.f_cursor) else some (a0.f_p.f_size.f_Rows, a0.f_p.f_size.f_Cols, a0.f_p.f_cells, a0.f_p.f_cursor))).bind fun (s11 : Int × Int × (List api_Cell) × Int) => (plane_Plane_Cursor_m (⟨(⟨s11.1, s11.2.1⟩ : api_Size), s11.2.2.1, s11.2.2.2⟩ : plane_Plane)).bind fun o13 => (screen_Screen_write_m K (⟨a0.f_sizes_0, a0.f_sizes_1, a0.f_which, (⟨(⟨s11.1, s11.2.1⟩ : api_Size), s11.2.2.1, s11.2.2.2⟩ : plane_Plane)⟩ : screen_Screen) a1 o13).bind fun o16 => some (o16.1, o16.2) else (if a1.f_Kind = (245 : UInt8) then (screen_Screen_erase_m K a0 a1 0).bind fun o20 => some (o20.1, o20.2) else (if a1.f_Kind = (126 : UInt8) then (screen_Screen_erase_m K a0 a1 1).bind fun o24 => some (o24.1, o24.2) else (if a1.f_Kind = (111 : UInt8) then (wipe_Open_m K a0.f_p).bind fun o28 => some ((⟨a0.f_sizes_0, a0.f_sizes_1, a0.f_which, o28.1⟩ : screen_Screen), (⟨0, true, false, 0⟩ : screen_Result)) else ((if a1.f_Kind = (242 : UInt8) then some (decide (a1.f_Kind = (242 : UInt8))) else (if a1.f_Kind = (246 : UInt8) then some (decide (a1.f_Kind = (246 : UInt8))) else some (decide (a1.f_Kind = (110 : UInt8)))))).bind fun (s33 : Bool) => (if s33 = true then some (a0, (⟨a1.f_Kind, false, false, 0⟩ : screen_Result)) else (if a1.f_Kind = (243 : UInt8) then (screen_Screen_fields_m K R_screen_Screen_Do a0 a1).bind fun o37 => some (o37.1, o37.2) else some (a0, (⟨0, false, false, 30⟩ : screen_Result))))))))
theorem screen_Screen_Do_f_c (K : Nat) (R_screen_Screen_Do : (screen_Screen → command_Command → Option (screen_Screen × screen_Result))) (hR_screen_Screen_Do : ∀ (a0 : screen_Screen) (a1 : command_Command) (b0_0 : Nat) (b0_1 : Nat) (v0_2 : Value) (v1_0 : Value) (v1_1 : Value), Con Try.prog 20 #[.pointer (some ⟨b0_0, 0, none⟩), .agg #[vB a1.f_Kind, vB a1.f_WCC, v1_0, .int .i64 a1.f_Err, v1_1]] [.blk b0_0 [.int .i64 a0.f_sizes_0.f_Rows, .int .i64 a0.f_sizes_0.f_Cols, .int .i64 a0.f_sizes_1.f_Rows, .int .i64 a0.f_sizes_1.f_Cols, .int .i64 a0.f_which, .pointer (some ⟨b0_1, 0, none⟩)] 64, .blk b0_1 [.int .i64 a0.f_p.f_size.f_Rows, .int .i64 a0.f_p.f_size.f_Cols, v0_2, .int .i64 a0.f_p.f_cursor] 66, .own v0_2 44 k_api_Cell a0.f_p.f_cells, .ro (kSl k_api_Order) [v1_0] a1.f_Orders, .ro (kSl k_command_Field) [v1_1] a1.f_Fields] (R_screen_Screen_Do a0 a1) (fun (o : screen_Screen × screen_Result) (x : Nat × Value) => .agg #[vB o.2.f_Reply, .bool o.2.f_Restore, .bool o.2.f_Alarm, .int .i64 o.2.f_Err]) (fun (o : screen_Screen × screen_Result) (x : Nat × Value) => [.blk b0_0 [.int .i64 o.1.f_sizes_0.f_Rows, .int .i64 o.1.f_sizes_0.f_Cols, .int .i64 o.1.f_sizes_1.f_Rows, .int .i64 o.1.f_sizes_1.f_Cols, .int .i64 o.1.f_which, .pointer (some ⟨x.1, 0, none⟩)] 64, .blk x.1 [.int .i64 o.1.f_p.f_size.f_Rows, .int .i64 o.1.f_p.f_size.f_Cols, x.2, .int .i64 o.1.f_p.f_cursor] 66, .own x.2 44 k_api_Cell o.1.f_p.f_cells])) (a0 : screen_Screen) (a1 : command_Command) (b0_0 : Nat) (b0_1 : Nat) (v0_2 : Value) (v1_0 : Value) (v1_1 : Value) : Con Try.prog 20 #[.pointer (some ⟨b0_0, 0, none⟩), .agg #[vB a1.f_Kind, vB a1.f_WCC, v1_0, .int .i64 a1.f_Err, v1_1]] [.blk b0_0 [.int .i64 a0.f_sizes_0.f_Rows, .int .i64 a0.f_sizes_0.f_Cols, .int .i64 a0.f_sizes_1.f_Rows, .int .i64 a0.f_sizes_1.f_Cols, .int .i64 a0.f_which, .pointer (some ⟨b0_1, 0, none⟩)] 64, .blk b0_1 [.int .i64 a0.f_p.f_size.f_Rows, .int .i64 a0.f_p.f_size.f_Cols, v0_2, .int .i64 a0.f_p.f_cursor] 66, .own v0_2 44 k_api_Cell a0.f_p.f_cells, .ro (kSl k_api_Order) [v1_0] a1.f_Orders, .ro (kSl k_command_Field) [v1_1] a1.f_Fields] (screen_Screen_Do_f_m K R_screen_Screen_Do a0 a1) (fun (o : screen_Screen × screen_Result) (x : Nat × Value) => .agg #[vB o.2.f_Reply, .bool o.2.f_Restore, .bool o.2.f_Alarm, .int .i64 o.2.f_Err]) (fun (o : screen_Screen × screen_Result) (x : Nat × Value) => [.blk b0_0 [.int .i64 o.1.f_sizes_0.f_Rows, .int .i64 o.1.f_sizes_0.f_Cols, .int .i64 o.1.f_sizes_1.f_Rows, .int .i64 o.1.f_sizes_1.f_Cols, .int .i64 o.1.f_which, .pointer (some ⟨x.1, 0, none⟩)] 64, .blk x.1 [.int .i64 o.1.f_p.f_size.f_Rows, .int .i64 o.1.f_p.f_size.f_Cols, x.2, .int .i64 o.1.f_p.f_cursor] 66, .own x.2 44 k_api_Cell o.1.f_p.f_cells]) := by
  unfold screen_Screen_Do_f_m
  refine con (args := [.pointer (some ⟨b0_0, 0, none⟩), .agg #[vB a1.f_Kind, vB a1.f_WCC, v1_0, .int .i64 a1.f_Err, v1_1]]) Try.func20 rfl 56 rfl (.c (.c .n)) rfl fun c hD hrn => ?_
  refine cSeq ?_
  refine cRegion ?_
  refine lCh (cBox (cs := [vB a1.f_Kind, vB a1.f_WCC, v1_0, .int .i64 a1.f_Err, v1_1]) (.t (.s .z)) rfl) rfl rfl fun b1 => ?_
  refine lCh (cAlloc (cs := [vB 0, .bool false, .bool false, .int .i64 0]) zer_37 rfl) rfl rfl fun b2 => ?_
  refine lKeep (.k (.k (.k .n))) ?_
  refine lNil ?_
  refine xCode ?_
  refine cSeq ?_
  refine cSeq ?_
  refine cRegion ?_
  refine lRd (dFld fld_58_0 (by decide) (.t (.s .z)) rfl) rfl rfl ?_
  refine lRd (dLoad (.s .z) agg_5 (.t .z) rfl) rfl rfl ?_
  refine lKeep (.k (.d (.k (.k (.k .n))))) ?_
  refine lNil ?_
  refine xCode ?_
  refine cBlock ?_
  refine cSeq ?_
  refine cRegion ?_
  refine lRd (dEqB (.t .z) (.c (v' := vB 241) rfl)) rfl rfl ?_
  refine lRd (dAssign (.t .z)) rfl rfl ?_
  refine lKeep (.k (.d (.k (.k (.k (.k .n)))))) ?_
  refine lNil ?_
  refine xCode ?_
  refine cCond (.t .z) (fun h3 => ?_) (fun h3 => ?_)
  · refine cSeq ?_
    refine cSeq ?_
    refine cRegion ?_
    refine lRd (dFld fld_58_1 (by decide) (.t (.s (.s (.s .z)))) rfl) rfl rfl ?_
    refine lRd (dLoad (.s .z) agg_5 (.t .z) rfl) rfl rfl ?_
    refine lCall fok_32 (.c (.t .z) .n) (command_Clean_c a1.f_WCC) .n rfl rfl fun o4 x5 h6 => ?_
    refine lKeep (.k (.d (.d (.d (.d (.k (.k (.k .n)))))))) ?_
    refine lNil ?_
    refine xCode ?_
    refine cJoin (S := Int × Int × (List api_Cell) × Int) (X := Unit) (fun (s : Int × Int × (List api_Cell) × Int) (x : Unit) => [(4, .pointer (some ⟨b2, 0, none⟩)), (3, .pointer (some ⟨b1, 0, none⟩)), (0, .pointer (some ⟨b0_0, 0, none⟩))]) (fun (s : Int × Int × (List api_Cell) × Int) (x : Unit) => [.blk b0_1 [.int .i64 s.1, .int .i64 s.2.1, v0_2, .int .i64 s.2.2.2] 66, .own v0_2 44 k_api_Cell s.2.2.1, .blk b2 [vB 0, .bool false, .bool false, .int .i64 0] 37, .blk b1 [vB a1.f_Kind, vB a1.f_WCC, v1_0, .int .i64 a1.f_Err, v1_1] 58, .blk b0_0 [.int .i64 a0.f_sizes_0.f_Rows, .int .i64 a0.f_sizes_0.f_Cols, .int .i64 a0.f_sizes_1.f_Rows, .int .i64 a0.f_sizes_1.f_Cols, .int .i64 a0.f_which, .pointer (some ⟨b0_1, 0, none⟩)] 64, .ro (kSl k_api_Order) [v1_0] a1.f_Orders, .ro (kSl k_command_Field) [v1_1] a1.f_Fields]) ?_ (fun s11 x12 => ?_)
    · refine cCondB (.t .z) (fun h7 => ?_) (fun h7 => ?_)
      · refine cRegion ?_
        refine lRd (dMove (.t (.s (.s (.s .z))))) rfl rfl ?_
        refine lRd (dNil (.t .z)) rfl rfl ?_
        refine lRd (dFld fld_64_2 (by decide) (.t .z) rfl) rfl rfl ?_
        refine lRd (dLoad (.s (.s .z)) agg_39 (.t .z) rfl) rfl rfl ?_
        refine lCallN fok_33 (.c (.t .z) .n) (field_Unmark_c K a0.f_p b0_1 v0_2) (.c (.s (.s (.s .z))) (.c (.s (.s (.s .z))) .n)) rfl fun o8 x9 h10 => ?_
        refine lKeep (.d (.d (.d (.d (.d (.k (.k (.k .n)))))))) ?_
        refine lNil ?_
        exact xJoin (o8.1.f_size.f_Rows, o8.1.f_size.f_Cols, o8.1.f_cells, o8.1.f_cursor) () (.c .z (.c (.s .z) (.c (.s (.s .z)) .n))) (.c .z (.c .z (.c .z (.c .z (.c .z (.c .z (.c .z .nil)))))))
      · refine cSkip ?_
        exact xJoin (a0.f_p.f_size.f_Rows, a0.f_p.f_size.f_Cols, a0.f_p.f_cells, a0.f_p.f_cursor) () (.c (.s .z) (.c (.s (.s .z)) (.c (.s (.s (.s .z))) .n))) (.c (.s (.s (.s .z))) (.c (.s (.s (.s .z))) (.c .z (.c .z (.c .z (.c .z (.c .z .nil)))))))
    · refine xCode ?_
      refine cSeq ?_
      refine cRegionM [7, 8] [(0, .early), (1, .early), (2, .early), (3, .early), (4, .early), (5, .early), (6, .early), (7, .only), (8, .only)] mixed (by kernel_rfl) (.c (.s (.s (.s .z))) (.c (.s (.s (.s (.s .z)))) (.c (.s (.s (.s (.s .z)))) (.c .z (.c .z (.c .z (.c .z .nil))))))) (.c (.c (.c .n))) ?_
      refine mRd rfl rfl (fun _ _ _ => dMove (.t (.s (.s .z)))) rfl rfl ?_
      refine mRd rfl rfl (fun _ _ _ => dLoadA (us := [vB a1.f_Kind, vB a1.f_WCC, v1_0, .int .i64 a1.f_Err, v1_1]) .z agg_58 siz_58 rfl (.t (.s (.s .z))) rfl) rfl rfl ?_
      refine mRd rfl rfl (fun _ _ _ => dMove (.t (.s (.s (.s (.s .z)))))) rfl rfl ?_
      refine mRd rfl rfl (fun _ _ _ => dNil (.t .z)) rfl rfl ?_
      refine mRd rfl rfl (fun _ _ _ => dFld fld_64_2 (by decide) (.t .z) rfl) rfl rfl ?_
      refine mRd rfl rfl (fun _ _ _ => dLoad (.s (.s (.s (.s (.s (.s .z)))))) agg_39 (.t .z) rfl) rfl rfl ?_
      refine mCallQ rfl rfl fok_35 (.c (.t .z) .n) (plane_Plane_Cursor_c (⟨(⟨s11.1, s11.2.1⟩ : api_Size), s11.2.2.1, s11.2.2.2⟩ : plane_Plane) b0_1 v0_2) (.c (.s (.s (.s .z))) (.c (.s (.s (.s .z))) .n)) (fun _ _ => rfl) (fun _ _ => (.c (.s (.s .z)) (.c (.s (.s .z)) (.c (.s (.s .z)) (.c .z (.c .z (.c .z (.c .z .nil)))))))) rfl rfl fun o13 h15 => ?_
      refine mCall rfl rfl fok_34 (.c (.t (.s (.s (.s (.s (.s (.s .z))))))) (.c (.t (.s (.s (.s (.s (.s .z)))))) (.c (.t .z) .n))) (screen_Screen_write_c K (⟨a0.f_sizes_0, a0.f_sizes_1, a0.f_which, (⟨(⟨s11.1, s11.2.1⟩ : api_Size), s11.2.2.1, s11.2.2.2⟩ : plane_Plane)⟩ : screen_Screen) a1 o13 b0_0 b0_1 v0_2 v1_0 v1_1) (.c (.s (.s (.s (.s (.s (.s .z)))))) (.c (.s (.s (.s .z))) (.c (.s (.s (.s .z))) (.r (.s .z) (.r (.s (.s .z)) .n))))) (fun o16 x17 => (.c (.s (.s (.s .z))) (.c (.s (.s (.s .z))) (.c (.s (.s (.s .z))) (.c .z (.c .z (.c .z (.c .z .nil)))))))) (fun _ _ => (.c (.c (.c .n)))) rfl rfl fun o16 x17 h18  => ?_
      refine mChU rfl rfl (uStoreA (us := [vB o16.2.f_Reply, .bool o16.2.f_Restore, .bool o16.2.f_Alarm, .int .i64 o16.2.f_Err]) (cs' := [vB o16.2.f_Reply, .bool o16.2.f_Restore, .bool o16.2.f_Alarm, .int .i64 o16.2.f_Err]) (.s (.s (.s (.s (.s (.s .z)))))) siz_37 rfl (by intro u hu; simp only [List.mem_cons, List.not_mem_nil, or_false] at hu; rcases hu with rfl | rfl | rfl | rfl <;> first | rfl | assumption) rfl (by simp) (.t (.s (.s (.s (.s (.s (.s (.s (.s .z))))))))) (.t .z)) (.c .z (.c .z (.c .z (.c .z (.c .z (.c .z (.c .z .nil))))))) (.c (.c (.c .n))) ?_
      refine mKeep (.d (.d (.d (.d (.d (.d (.d (.d (.k .n))))))))) ?_
      refine mNil ?_
      refine xCode ?_
      refine cRet ?_
      refine rLeave hD ?_
      exact lvRet (rs := [.cell 4 37]) rfl (.a .z (.s (.s (.s (.s (.s (.s .z)))))) agg_37 siz_37 .n) (b0_1, v0_2) rfl (.c (.s (.s (.s .z))) (.c (.s (.s (.s .z))) (.c (.s (.s (.s .z))) .nil)))
  · refine cSeq ?_
    refine cRegion ?_
    refine lRd (dEqB (.t (.s .z)) (.c (v' := vB 245) rfl)) rfl rfl ?_
    refine lRd (dAssign (.t .z)) rfl rfl ?_
    refine lKeep (.k (.d (.d (.k (.k (.k (.k .n))))))) ?_
    refine lNil ?_
    refine xCode ?_
    refine cCond (.t .z) (fun h19 => ?_) (fun h19 => ?_)
    · refine cSeq ?_
      refine cRegion ?_
      refine lRd (dMove (.t (.s (.s (.s (.s .z)))))) rfl rfl ?_
      refine lRd (dLoadA (us := [vB a1.f_Kind, vB a1.f_WCC, v1_0, .int .i64 a1.f_Err, v1_1]) (.s .z) agg_58 siz_58 rfl (.t (.s (.s (.s (.s .z))))) rfl) rfl rfl ?_
      refine lCall fok_36 (.c (.t (.s .z)) (.c (.t .z) (.c (.c rfl) .n))) (screen_Screen_erase_c K a0 a1 0 b0_0 b0_1 v0_2 v1_0 v1_1) (.c (.s (.s .z)) (.c (.s (.s .z)) (.c (.s (.s .z)) (.r (.s (.s .z)) (.r (.s (.s (.s .z))) .n))))) rfl rfl fun o20 x21 h22 => ?_
      refine lChU (uStoreA (us := [vB o20.2.f_Reply, .bool o20.2.f_Restore, .bool o20.2.f_Alarm, .int .i64 o20.2.f_Err]) (cs' := [vB o20.2.f_Reply, .bool o20.2.f_Restore, .bool o20.2.f_Alarm, .int .i64 o20.2.f_Err]) (.s (.s (.s .z))) siz_37 rfl (by intro u hu; simp only [List.mem_cons, List.not_mem_nil, or_false] at hu; rcases hu with rfl | rfl | rfl | rfl <;> first | rfl | assumption) rfl (by simp) (.t (.s (.s (.s (.s (.s .z)))))) (.t .z)) ?_
      refine lKeep (.d (.d (.d (.d (.d (.k .n)))))) ?_
      refine lNil ?_
      refine xCode ?_
      refine cRet ?_
      refine rLeave hD ?_
      exact lvRet (rs := [.cell 4 37]) rfl (.a .z (.s (.s (.s .z))) agg_37 siz_37 .n) (x21.1, x21.2) rfl (.c .z (.c .z (.c .z .nil)))
    · refine cSeq ?_
      refine cRegion ?_
      refine lRd (dEqB (.t (.s .z)) (.c (v' := vB 126) rfl)) rfl rfl ?_
      refine lRd (dAssign (.t .z)) rfl rfl ?_
      refine lKeep (.k (.d (.d (.k (.k (.k (.k .n))))))) ?_
      refine lNil ?_
      refine xCode ?_
      refine cCond (.t .z) (fun h23 => ?_) (fun h23 => ?_)
      · refine cSeq ?_
        refine cRegion ?_
        refine lRd (dMove (.t (.s (.s (.s (.s .z)))))) rfl rfl ?_
        refine lRd (dLoadA (us := [vB a1.f_Kind, vB a1.f_WCC, v1_0, .int .i64 a1.f_Err, v1_1]) (.s .z) agg_58 siz_58 rfl (.t (.s (.s (.s (.s .z))))) rfl) rfl rfl ?_
        refine lCall fok_36 (.c (.t (.s .z)) (.c (.t .z) (.c (.c rfl) .n))) (screen_Screen_erase_c K a0 a1 1 b0_0 b0_1 v0_2 v1_0 v1_1) (.c (.s (.s .z)) (.c (.s (.s .z)) (.c (.s (.s .z)) (.r (.s (.s .z)) (.r (.s (.s (.s .z))) .n))))) rfl rfl fun o24 x25 h26 => ?_
        refine lChU (uStoreA (us := [vB o24.2.f_Reply, .bool o24.2.f_Restore, .bool o24.2.f_Alarm, .int .i64 o24.2.f_Err]) (cs' := [vB o24.2.f_Reply, .bool o24.2.f_Restore, .bool o24.2.f_Alarm, .int .i64 o24.2.f_Err]) (.s (.s (.s .z))) siz_37 rfl (by intro u hu; simp only [List.mem_cons, List.not_mem_nil, or_false] at hu; rcases hu with rfl | rfl | rfl | rfl <;> first | rfl | assumption) rfl (by simp) (.t (.s (.s (.s (.s (.s .z)))))) (.t .z)) ?_
        refine lKeep (.d (.d (.d (.d (.d (.k .n)))))) ?_
        refine lNil ?_
        refine xCode ?_
        refine cRet ?_
        refine rLeave hD ?_
        exact lvRet (rs := [.cell 4 37]) rfl (.a .z (.s (.s (.s .z))) agg_37 siz_37 .n) (x25.1, x25.2) rfl (.c .z (.c .z (.c .z .nil)))
      · refine cSeq ?_
        refine cRegion ?_
        refine lRd (dEqB (.t (.s .z)) (.c (v' := vB 111) rfl)) rfl rfl ?_
        refine lRd (dAssign (.t .z)) rfl rfl ?_
        refine lKeep (.k (.d (.d (.k (.k (.k (.k .n))))))) ?_
        refine lNil ?_
        refine xCode ?_
        refine cCond (.t .z) (fun h27 => ?_) (fun h27 => ?_)
        · refine cSeq ?_
          refine cRegion ?_
          refine lRd (dMove (.t (.s (.s (.s (.s .z)))))) rfl rfl ?_
          refine lRd (dNil (.t .z)) rfl rfl ?_
          refine lRd (dFld fld_64_2 (by decide) (.t .z) rfl) rfl rfl ?_
          refine lRd (dLoad (.s (.s .z)) agg_39 (.t .z) rfl) rfl rfl ?_
          refine lCallN fok_37 (.c (.t .z) .n) (wipe_Open_c K a0.f_p b0_1 v0_2) (.c (.s (.s (.s .z))) (.c (.s (.s (.s .z))) .n)) rfl fun o28 x29 h30 => ?_
          refine lKeep (.d (.d (.d (.d (.d (.d (.k .n))))))) ?_
          refine lNil ?_
          refine xCode ?_
          refine cSeq ?_
          refine cRegion ?_
          refine lRd (dBuild (cs := [vB 0, .bool true, .bool false, .int .i64 0]) zer_37 rfl plc_37 (.c (.c rfl) .n) rfl) rfl rfl ?_
          refine lChU (uStoreA (us := [vB 0, .bool true, .bool false, .int .i64 0]) (cs' := [vB 0, .bool true, .bool false, .int .i64 0]) (.s (.s .z)) siz_37 rfl (by intro u hu; simp only [List.mem_cons, List.not_mem_nil, or_false] at hu; rcases hu with rfl | rfl | rfl | rfl <;> first | rfl | assumption) rfl (by simp) (.t (.s .z)) (.t .z)) ?_
          refine lKeep (.d (.k .n)) ?_
          refine lNil ?_
          refine xCode ?_
          refine cRet ?_
          refine rLeave hD ?_
          exact lvRet (rs := [.cell 4 37]) rfl (.a .z (.s (.s .z)) agg_37 siz_37 .n) (b0_1, v0_2) rfl (.c (.s (.s (.s (.s .z)))) (.c .z (.c .z .nil)))
        · refine cSeq ?_
          refine cSeq ?_
          refine cRegion ?_
          refine lRd (dEqB (.t (.s .z)) (.c (v' := vB 242) rfl)) rfl rfl ?_
          refine lRd (dAssign (.t .z)) rfl rfl ?_
          refine lKeep (.k (.d (.d (.k (.k (.k (.k .n))))))) ?_
          refine lNil ?_
          refine xCode ?_
          refine cJoin (S := Bool) (X := Unit) (fun (s : Bool) (x : Unit) => [(43, .bool s), (6, vB a1.f_Kind), (4, .pointer (some ⟨b2, 0, none⟩)), (3, .pointer (some ⟨b1, 0, none⟩)), (0, .pointer (some ⟨b0_0, 0, none⟩))]) (fun (s : Bool) (x : Unit) => [.blk b2 [vB 0, .bool false, .bool false, .int .i64 0] 37, .blk b1 [vB a1.f_Kind, vB a1.f_WCC, v1_0, .int .i64 a1.f_Err, v1_1] 58, .blk b0_0 [.int .i64 a0.f_sizes_0.f_Rows, .int .i64 a0.f_sizes_0.f_Cols, .int .i64 a0.f_sizes_1.f_Rows, .int .i64 a0.f_sizes_1.f_Cols, .int .i64 a0.f_which, .pointer (some ⟨b0_1, 0, none⟩)] 64, .blk b0_1 [.int .i64 a0.f_p.f_size.f_Rows, .int .i64 a0.f_p.f_size.f_Cols, v0_2, .int .i64 a0.f_p.f_cursor] 66, .own v0_2 44 k_api_Cell a0.f_p.f_cells, .ro (kSl k_api_Order) [v1_0] a1.f_Orders, .ro (kSl k_command_Field) [v1_1] a1.f_Fields]) ?_ (fun s33 x34 => ?_)
          · refine cCond (.t .z) (fun h31 => ?_) (fun h31 => ?_)
            · refine cSkip ?_
              exact xJoin (decide (a1.f_Kind = (242 : UInt8))) () (.c .z (.c (.s .z) (.c (.s (.s .z)) (.c (.s (.s (.s .z))) (.c (.s (.s (.s (.s .z)))) .n))))) (.c .z (.c .z (.c .z (.c .z (.c .z (.c .z (.c .z .nil)))))))
            · refine cSeq ?_
              refine cRegion ?_
              refine lRd (dEqB (.t (.s .z)) (.c (v' := vB 246) rfl)) rfl rfl ?_
              refine lRdK (dAssign (.t .z)) (.k (.d (Keep.refl _))) rfl rfl ?_
              refine lKeep (.k (.d (.k (.k (.k (.k .n)))))) ?_
              refine lNil ?_
              refine xCode ?_
              refine cCond (.t .z) (fun h32 => ?_) (fun h32 => ?_)
              · refine cSkip ?_
                exact xJoin (decide (a1.f_Kind = (246 : UInt8))) () (.c .z (.c (.s .z) (.c (.s (.s .z)) (.c (.s (.s (.s .z))) (.c (.s (.s (.s (.s .z)))) .n))))) (.c .z (.c .z (.c .z (.c .z (.c .z (.c .z (.c .z .nil)))))))
              · refine cRegion ?_
                refine lRd (dEqB (.t (.s .z)) (.c (v' := vB 110) rfl)) rfl rfl ?_
                refine lRdK (dAssign (.t .z)) (.k (.d (Keep.refl _))) rfl rfl ?_
                refine lKeep (.k (.d (.k (.k (.k (.k .n)))))) ?_
                refine lNil ?_
                exact xJoin (decide (a1.f_Kind = (110 : UInt8))) () (.c .z (.c (.s .z) (.c (.s (.s .z)) (.c (.s (.s (.s .z))) (.c (.s (.s (.s (.s .z)))) .n))))) (.c .z (.c .z (.c .z (.c .z (.c .z (.c .z (.c .z .nil)))))))
          · refine xCode ?_
            refine cCondB (.t .z) (fun h35 => ?_) (fun h35 => ?_)
            · refine cSeq ?_
              refine cRegion ?_
              refine lRd (dFld fld_58_0 (by decide) (.t (.s (.s (.s .z)))) rfl) rfl rfl ?_
              refine lRd (dLoad (.s .z) agg_5 (.t .z) rfl) rfl rfl ?_
              refine lRd (dBuild (cs := [vB a1.f_Kind, .bool false, .bool false, .int .i64 0]) zer_37 rfl plc_37 (.c (.t .z) .n) rfl) rfl rfl ?_
              refine lChU (uStoreA (us := [vB a1.f_Kind, .bool false, .bool false, .int .i64 0]) (cs' := [vB a1.f_Kind, .bool false, .bool false, .int .i64 0]) .z siz_37 rfl (by intro u hu; simp only [List.mem_cons, List.not_mem_nil, or_false] at hu; rcases hu with rfl | rfl | rfl | rfl <;> first | rfl | assumption) rfl (by simp) (.t (.s (.s (.s (.s (.s .z)))))) (.t .z)) ?_
              refine lKeep (.d (.d (.d (.d (.d (.k .n)))))) ?_
              refine lNil ?_
              refine xCode ?_
              refine cRet ?_
              refine rLeave hD ?_
              exact lvRet (rs := [.cell 4 37]) rfl (.a .z .z agg_37 siz_37 .n) (b0_1, v0_2) rfl (.c (.s (.s .z)) (.c (.s (.s .z)) (.c (.s (.s .z)) .nil)))
            · refine cSeq ?_
              refine cRegion ?_
              refine lRd (dEqB (.t (.s .z)) (.c (v' := vB 243) rfl)) rfl rfl ?_
              refine lRd (dAssign (.t .z)) rfl rfl ?_
              refine lKeep (.k (.d (.d (.d (.k (.k (.k .n))))))) ?_
              refine lNil ?_
              refine xCode ?_
              refine cCond (.t .z) (fun h36 => ?_) (fun h36 => ?_)
              · refine cSeq ?_
                refine cRegion ?_
                refine lRd (dMove (.t (.s (.s (.s .z))))) rfl rfl ?_
                refine lRd (dLoadA (us := [vB a1.f_Kind, vB a1.f_WCC, v1_0, .int .i64 a1.f_Err, v1_1]) (.s .z) agg_58 siz_58 rfl (.t (.s (.s (.s .z)))) rfl) rfl rfl ?_
                refine lCall fok_38 (.c (.t (.s .z)) (.c (.t .z) .n)) (screen_Screen_fields_c K R_screen_Screen_Do hR_screen_Screen_Do a0 a1 b0_0 b0_1 v0_2 v1_0 v1_1) (.c (.s (.s .z)) (.c (.s (.s .z)) (.c (.s (.s .z)) (.r (.s (.s .z)) (.r (.s (.s (.s .z))) .n))))) rfl rfl fun o37 x38 h39 => ?_
                refine lChU (uStoreA (us := [vB o37.2.f_Reply, .bool o37.2.f_Restore, .bool o37.2.f_Alarm, .int .i64 o37.2.f_Err]) (cs' := [vB o37.2.f_Reply, .bool o37.2.f_Restore, .bool o37.2.f_Alarm, .int .i64 o37.2.f_Err]) (.s (.s (.s .z))) siz_37 rfl (by intro u hu; simp only [List.mem_cons, List.not_mem_nil, or_false] at hu; rcases hu with rfl | rfl | rfl | rfl <;> first | rfl | assumption) rfl (by simp) (.t (.s (.s (.s (.s .z))))) (.t .z)) ?_
                refine lKeep (.d (.d (.d (.d (.k .n))))) ?_
                refine lNil ?_
                refine xCode ?_
                refine cRet ?_
                refine rLeave hD ?_
                exact lvRet (rs := [.cell 4 37]) rfl (.a .z (.s (.s (.s .z))) agg_37 siz_37 .n) (x38.1, x38.2) rfl (.c .z (.c .z (.c .z .nil)))
              · refine cSkip ?_
                refine xBlock ?_
                refine xCode ?_
                refine cSeq ?_
                refine cRegion ?_
                refine lRd (dBuild (cs := [vB 0, .bool false, .bool false, .int .i64 30]) zer_37 rfl plc_37 (.c (.c rfl) .n) rfl) rfl rfl ?_
                refine lChU (uStoreA (us := [vB 0, .bool false, .bool false, .int .i64 30]) (cs' := [vB 0, .bool false, .bool false, .int .i64 30]) .z siz_37 rfl (by intro u hu; simp only [List.mem_cons, List.not_mem_nil, or_false] at hu; rcases hu with rfl | rfl | rfl | rfl <;> first | rfl | assumption) rfl (by simp) (.t (.s (.s .z))) (.t .z)) ?_
                refine lKeep (.d (.d (.k .n))) ?_
                refine lNil ?_
                refine xCode ?_
                refine cRet ?_
                refine rLeave hD ?_
                exact lvRet (rs := [.cell 4 37]) rfl (.a .z .z agg_37 siz_37 .n) (b0_1, v0_2) rfl (.c (.s (.s .z)) (.c (.s (.s .z)) (.c (.s (.s .z)) .nil)))

def grp_screen_Screen_Do_mR (K : Nat) : Nat → (screen_Screen → command_Command → Option (screen_Screen × screen_Result))
  | 0 => (fun _ _ => none)
  | n + 1 => screen_Screen_Do_f_m K (grp_screen_Screen_Do_mR K n)
theorem grp_screen_Screen_Do_cR (K : Nat) : ∀ n, (∀ (a0 : screen_Screen) (a1 : command_Command) (b0_0 : Nat) (b0_1 : Nat) (v0_2 : Value) (v1_0 : Value) (v1_1 : Value), Con Try.prog 20 #[.pointer (some ⟨b0_0, 0, none⟩), .agg #[vB a1.f_Kind, vB a1.f_WCC, v1_0, .int .i64 a1.f_Err, v1_1]] [.blk b0_0 [.int .i64 a0.f_sizes_0.f_Rows, .int .i64 a0.f_sizes_0.f_Cols, .int .i64 a0.f_sizes_1.f_Rows, .int .i64 a0.f_sizes_1.f_Cols, .int .i64 a0.f_which, .pointer (some ⟨b0_1, 0, none⟩)] 64, .blk b0_1 [.int .i64 a0.f_p.f_size.f_Rows, .int .i64 a0.f_p.f_size.f_Cols, v0_2, .int .i64 a0.f_p.f_cursor] 66, .own v0_2 44 k_api_Cell a0.f_p.f_cells, .ro (kSl k_api_Order) [v1_0] a1.f_Orders, .ro (kSl k_command_Field) [v1_1] a1.f_Fields] ((grp_screen_Screen_Do_mR K n) a0 a1) (fun (o : screen_Screen × screen_Result) (x : Nat × Value) => .agg #[vB o.2.f_Reply, .bool o.2.f_Restore, .bool o.2.f_Alarm, .int .i64 o.2.f_Err]) (fun (o : screen_Screen × screen_Result) (x : Nat × Value) => [.blk b0_0 [.int .i64 o.1.f_sizes_0.f_Rows, .int .i64 o.1.f_sizes_0.f_Cols, .int .i64 o.1.f_sizes_1.f_Rows, .int .i64 o.1.f_sizes_1.f_Cols, .int .i64 o.1.f_which, .pointer (some ⟨x.1, 0, none⟩)] 64, .blk x.1 [.int .i64 o.1.f_p.f_size.f_Rows, .int .i64 o.1.f_p.f_size.f_Cols, x.2, .int .i64 o.1.f_p.f_cursor] 66, .own x.2 44 k_api_Cell o.1.f_p.f_cells]))
  | 0 => (fun _ _ _ _ _ _ _ => by intro out hm; cases hm)
  | n + 1 => screen_Screen_Do_f_c K (grp_screen_Screen_Do_mR K n) (grp_screen_Screen_Do_cR K n)
def screen_Screen_Do_m (K : Nat) (a0 : screen_Screen) (a1 : command_Command) : Option (screen_Screen × screen_Result) := (grp_screen_Screen_Do_mR K K) a0 a1
theorem screen_Screen_Do_c (K : Nat) (a0 : screen_Screen) (a1 : command_Command) (b0_0 : Nat) (b0_1 : Nat) (v0_2 : Value) (v1_0 : Value) (v1_1 : Value) : Con Try.prog 20 #[.pointer (some ⟨b0_0, 0, none⟩), .agg #[vB a1.f_Kind, vB a1.f_WCC, v1_0, .int .i64 a1.f_Err, v1_1]] [.blk b0_0 [.int .i64 a0.f_sizes_0.f_Rows, .int .i64 a0.f_sizes_0.f_Cols, .int .i64 a0.f_sizes_1.f_Rows, .int .i64 a0.f_sizes_1.f_Cols, .int .i64 a0.f_which, .pointer (some ⟨b0_1, 0, none⟩)] 64, .blk b0_1 [.int .i64 a0.f_p.f_size.f_Rows, .int .i64 a0.f_p.f_size.f_Cols, v0_2, .int .i64 a0.f_p.f_cursor] 66, .own v0_2 44 k_api_Cell a0.f_p.f_cells, .ro (kSl k_api_Order) [v1_0] a1.f_Orders, .ro (kSl k_command_Field) [v1_1] a1.f_Fields] (screen_Screen_Do_m K a0 a1) (fun (o : screen_Screen × screen_Result) (x : Nat × Value) => .agg #[vB o.2.f_Reply, .bool o.2.f_Restore, .bool o.2.f_Alarm, .int .i64 o.2.f_Err]) (fun (o : screen_Screen × screen_Result) (x : Nat × Value) => [.blk b0_0 [.int .i64 o.1.f_sizes_0.f_Rows, .int .i64 o.1.f_sizes_0.f_Cols, .int .i64 o.1.f_sizes_1.f_Rows, .int .i64 o.1.f_sizes_1.f_Cols, .int .i64 o.1.f_which, .pointer (some ⟨x.1, 0, none⟩)] 64, .blk x.1 [.int .i64 o.1.f_p.f_size.f_Rows, .int .i64 o.1.f_p.f_size.f_Cols, x.2, .int .i64 o.1.f_p.f_cursor] 66, .own x.2 44 k_api_Cell o.1.f_p.f_cells]) := (grp_screen_Screen_Do_cR K K) a0 a1 b0_0 b0_1 v0_2 v1_0 v1_1

-- (*greenscreen/screen.Screen).Run
def screen_Screen_Run_m (K : Nat) (a0 : screen_Screen) (a1 : (List UInt8)) : Option (screen_Screen × screen_Result) := (command_Parse_m K a1).bind fun o2 => (if o2.2 ≠ 0 then some (a0, (⟨0, false, false, o2.2⟩ : screen_Result)) else (screen_Screen_Do_m K a0 o2.1).bind fun o9 => some (o9.1, o9.2))
theorem screen_Screen_Run_c (K : Nat) (a0 : screen_Screen) (a1 : (List UInt8)) (b0_0 : Nat) (b0_1 : Nat) (v0_2 : Value) (v1_0 : Value) : Con Try.prog 8 #[.pointer (some ⟨b0_0, 0, none⟩), v1_0] [.blk b0_0 [.int .i64 a0.f_sizes_0.f_Rows, .int .i64 a0.f_sizes_0.f_Cols, .int .i64 a0.f_sizes_1.f_Rows, .int .i64 a0.f_sizes_1.f_Cols, .int .i64 a0.f_which, .pointer (some ⟨b0_1, 0, none⟩)] 64, .blk b0_1 [.int .i64 a0.f_p.f_size.f_Rows, .int .i64 a0.f_p.f_size.f_Cols, v0_2, .int .i64 a0.f_p.f_cursor] 66, .own v0_2 44 k_api_Cell a0.f_p.f_cells, .ro (kSl kB) [v1_0] a1] (screen_Screen_Run_m K a0 a1) (fun (o : screen_Screen × screen_Result) (x : Nat × Value) => .agg #[vB o.2.f_Reply, .bool o.2.f_Restore, .bool o.2.f_Alarm, .int .i64 o.2.f_Err]) (fun (o : screen_Screen × screen_Result) (x : Nat × Value) => [.blk b0_0 [.int .i64 o.1.f_sizes_0.f_Rows, .int .i64 o.1.f_sizes_0.f_Cols, .int .i64 o.1.f_sizes_1.f_Rows, .int .i64 o.1.f_sizes_1.f_Cols, .int .i64 o.1.f_which, .pointer (some ⟨x.1, 0, none⟩)] 64, .blk x.1 [.int .i64 o.1.f_p.f_size.f_Rows, .int .i64 o.1.f_p.f_size.f_Cols, x.2, .int .i64 o.1.f_p.f_cursor] 66, .own x.2 44 k_api_Cell o.1.f_p.f_cells]) := by
  unfold screen_Screen_Run_m
  refine con (args := [.pointer (some ⟨b0_0, 0, none⟩), v1_0]) Try.func8 rfl 19 rfl (.c (.c .n)) rfl fun c hD hrn => ?_
  refine cSeq ?_
  refine cRegion ?_
  refine lCh (cAlloc (cs := [vB 0, .bool false, .bool false, .int .i64 0]) zer_37 rfl) rfl rfl fun b1 => ?_
  refine lNil ?_
  refine xCode ?_
  refine cSeq ?_
  refine cRegion ?_
  refine lRd (dMove (.t (.s (.s .z)))) rfl rfl ?_
  refine lCall fok_19 (.c (.t .z) .n) (command_Parse_c K a1 v1_0) (.r (.s (.s (.s (.s .z)))) .n) rfl rfl fun o2 x3 h4 => ?_
  refine lRd (dMove (.t .z)) rfl rfl ?_
  refine lRd (dExtract (.t .z) rfl) rfl rfl ?_
  refine lRd (dExtract (.t (.s .z)) rfl) rfl rfl ?_
  refine lCh (cAlloc (cs := [vB 0, vB 0, .slice none 0 0, .int .i64 0, .slice none 0 0]) zer_58 rfl) rfl rfl fun b5 => ?_
  refine lFact (oneRo (.s .z)) fun h6 => ?_
  refine lFact (oneRo (.s (.s .z))) fun h7 => ?_
  refine lChU (uStoreA (us := [vB o2.1.f_Kind, vB o2.1.f_WCC, x3.1, .int .i64 o2.1.f_Err, x3.2]) (cs' := [vB o2.1.f_Kind, vB o2.1.f_WCC, x3.1, .int .i64 o2.1.f_Err, x3.2]) .z siz_58 rfl (by intro u hu; simp only [List.mem_cons, List.not_mem_nil, or_false] at hu; rcases hu with rfl | rfl | rfl | rfl | rfl <;> first | rfl | assumption) rfl (by simp) (.t .z) (.t (.s (.s .z)))) ?_
  refine lRd (dAssign (.t (.s .z))) rfl rfl ?_
  refine lKeep (.k (.k (.d (.d (.d (.d (.d (.k (.k .n))))))))) ?_
  refine lNil ?_
  refine xCode ?_
  refine cSeq ?_
  refine cSeq ?_
  refine cRegion ?_
  refine lRd (dMove (.t .z)) rfl rfl ?_
  refine lRd (dNe (.t .z) (.c rfl)) rfl rfl ?_
  refine lKeep (.k (.d (.k (.k (.k (.k .n)))))) ?_
  refine lNil ?_
  refine xCode ?_
  refine cCond (.t .z) (fun h8 => ?_) (fun h8 => ?_)
  · refine cSeq ?_
    refine cRegion ?_
    refine lRd (dMove (.t (.s .z))) rfl rfl ?_
    refine lRd (dBuild (cs := [vB 0, .bool false, .bool false, .int .i64 o2.2]) zer_37 rfl plc_37 (.c (.t .z) .n) rfl) rfl rfl ?_
    refine lChU (uStoreA (us := [vB 0, .bool false, .bool false, .int .i64 o2.2]) (cs' := [vB 0, .bool false, .bool false, .int .i64 o2.2]) (.s (.s (.s .z))) siz_37 rfl (by intro u hu; simp only [List.mem_cons, List.not_mem_nil, or_false] at hu; rcases hu with rfl | rfl | rfl | rfl <;> first | rfl | assumption) rfl (by simp) (.t (.s (.s (.s (.s (.s .z)))))) (.t .z)) ?_
    refine lKeep (.d (.d (.d (.d (.k (.k (.k .n))))))) ?_
    refine lNil ?_
    refine xCode ?_
    refine cRet ?_
    refine rLeave hD ?_
    exact lvRet (rs := [.cell 4 37]) rfl (.a (.s .z) (.s (.s (.s .z))) agg_37 siz_37 .n) (b0_1, v0_2) rfl (.c (.s (.s (.s (.s .z)))) (.c (.s (.s (.s (.s .z)))) (.c (.s (.s (.s (.s .z)))) .nil)))
  · refine cSkip ?_
    refine xCode ?_
    refine cSeq ?_
    refine cRegion ?_
    refine lRd (dMove (.t (.s (.s (.s (.s .z)))))) rfl rfl ?_
    refine lRd (dLoadA (us := [vB o2.1.f_Kind, vB o2.1.f_WCC, x3.1, .int .i64 o2.1.f_Err, x3.2]) .z agg_58 siz_58 rfl (.t (.s (.s (.s .z)))) rfl) rfl rfl ?_
    refine lCall fok_20 (.c (.t (.s .z)) (.c (.t .z) .n)) (screen_Screen_Do_c K a0 o2.1 b0_0 b0_1 v0_2 x3.1 x3.2) (.c (.s (.s (.s (.s .z)))) (.c (.s (.s (.s (.s .z)))) (.c (.s (.s (.s (.s .z)))) (.r (.s .z) (.r (.s (.s .z)) .n))))) rfl rfl fun o9 x10 h11 => ?_
    refine lChU (uStoreA (us := [vB o9.2.f_Reply, .bool o9.2.f_Restore, .bool o9.2.f_Alarm, .int .i64 o9.2.f_Err]) (cs' := [vB o9.2.f_Reply, .bool o9.2.f_Restore, .bool o9.2.f_Alarm, .int .i64 o9.2.f_Err]) (.s (.s (.s (.s (.s (.s .z)))))) siz_37 rfl (by intro u hu; simp only [List.mem_cons, List.not_mem_nil, or_false] at hu; rcases hu with rfl | rfl | rfl | rfl <;> first | rfl | assumption) rfl (by simp) (.t (.s (.s (.s (.s (.s (.s .z))))))) (.t .z)) ?_
    refine lKeep (.d (.d (.d (.d (.d (.d (.k .n))))))) ?_
    refine lNil ?_
    refine xCode ?_
    refine cRet ?_
    refine rLeave hD ?_
    exact lvRet (rs := [.cell 4 37]) rfl (.a .z (.s (.s (.s (.s (.s (.s .z)))))) agg_37 siz_37 .n) (x10.1, x10.2) rfl (.c .z (.c .z (.c .z .nil)))

-- (*greenscreen/screen.Screen).Plane
def screen_Screen_Plane_m (a0 : screen_Screen) : Option (Unit) := some ()
theorem screen_Screen_Plane_c (a0 : screen_Screen) (b0_0 : Nat) (b0_1 : Nat) (v0_2 : Value) : Con Try.prog 9 #[.pointer (some ⟨b0_0, 0, none⟩)] [.blk b0_0 [.int .i64 a0.f_sizes_0.f_Rows, .int .i64 a0.f_sizes_0.f_Cols, .int .i64 a0.f_sizes_1.f_Rows, .int .i64 a0.f_sizes_1.f_Cols, .int .i64 a0.f_which, .pointer (some ⟨b0_1, 0, none⟩)] 64, .blk b0_1 [.int .i64 a0.f_p.f_size.f_Rows, .int .i64 a0.f_p.f_size.f_Cols, v0_2, .int .i64 a0.f_p.f_cursor] 66, .own v0_2 44 k_api_Cell a0.f_p.f_cells] (screen_Screen_Plane_m a0) (fun (o : Unit) (x : Unit) => .pointer (some ⟨b0_1, 0, none⟩)) (fun (o : Unit) (x : Unit) => [.blk b0_0 [.int .i64 a0.f_sizes_0.f_Rows, .int .i64 a0.f_sizes_0.f_Cols, .int .i64 a0.f_sizes_1.f_Rows, .int .i64 a0.f_sizes_1.f_Cols, .int .i64 a0.f_which, .pointer (some ⟨b0_1, 0, none⟩)] 64, .blk b0_1 [.int .i64 a0.f_p.f_size.f_Rows, .int .i64 a0.f_p.f_size.f_Cols, v0_2, .int .i64 a0.f_p.f_cursor] 66, .own v0_2 44 k_api_Cell a0.f_p.f_cells]) := by
  unfold screen_Screen_Plane_m
  refine con (args := [.pointer (some ⟨b0_0, 0, none⟩)]) Try.func9 rfl 7 rfl (.c .n) rfl fun c hD hrn => ?_
  refine cSeq ?_
  refine cRegion ?_
  refine lRd (dAssign (.c rfl)) rfl rfl ?_
  refine lNil ?_
  refine xCode ?_
  refine cSeq ?_
  refine cRegion ?_
  refine lRd (dMove (.t (.s .z))) rfl rfl ?_
  refine lRd (dNil (.t .z)) rfl rfl ?_
  refine lRd (dFld fld_64_2 (by decide) (.t .z) rfl) rfl rfl ?_
  refine lRd (dLoad .z agg_39 (.t .z) rfl) rfl rfl ?_
  refine lRdK (dAssign (.t .z)) (.k (.k (.k (.k (.d (Keep.refl _)))))) rfl rfl ?_
  refine lKeep (.k .n) ?_
  refine lNil ?_
  refine xCode ?_
  refine cRet ?_
  refine rLeave hD ?_
  exact lvRet (rs := [.tmp 2]) rfl (.t .z .n) () rfl (.c .z (.c .z (.c .z .nil)))

-- (*greenscreen/screen.Screen).Other
def screen_Screen_Other_m (a0 : screen_Screen) : Option (Bool) := some (decide (a0.f_which = 1))
theorem screen_Screen_Other_c (a0 : screen_Screen) (b0_0 : Nat) (b0_1 : Nat) (v0_2 : Value) : Con Try.prog 11 #[.pointer (some ⟨b0_0, 0, none⟩)] [.blk b0_0 [.int .i64 a0.f_sizes_0.f_Rows, .int .i64 a0.f_sizes_0.f_Cols, .int .i64 a0.f_sizes_1.f_Rows, .int .i64 a0.f_sizes_1.f_Cols, .int .i64 a0.f_which, .pointer (some ⟨b0_1, 0, none⟩)] 64, .blk b0_1 [.int .i64 a0.f_p.f_size.f_Rows, .int .i64 a0.f_p.f_size.f_Cols, v0_2, .int .i64 a0.f_p.f_cursor] 66, .own v0_2 44 k_api_Cell a0.f_p.f_cells] (screen_Screen_Other_m a0) (fun (o : Bool) (x : Unit) => .bool o) (fun (o : Bool) (x : Unit) => [.blk b0_0 [.int .i64 a0.f_sizes_0.f_Rows, .int .i64 a0.f_sizes_0.f_Cols, .int .i64 a0.f_sizes_1.f_Rows, .int .i64 a0.f_sizes_1.f_Cols, .int .i64 a0.f_which, .pointer (some ⟨b0_1, 0, none⟩)] 64, .blk b0_1 [.int .i64 a0.f_p.f_size.f_Rows, .int .i64 a0.f_p.f_size.f_Cols, v0_2, .int .i64 a0.f_p.f_cursor] 66, .own v0_2 44 k_api_Cell a0.f_p.f_cells]) := by
  unfold screen_Screen_Other_m
  refine con (args := [.pointer (some ⟨b0_0, 0, none⟩)]) Try.func11 rfl 8 rfl (.c .n) rfl fun c hD hrn => ?_
  refine cSeq ?_
  refine cRegion ?_
  refine lRd (dAssign (.c rfl)) rfl rfl ?_
  refine lNil ?_
  refine xCode ?_
  refine cSeq ?_
  refine cRegion ?_
  refine lRd (dMove (.t (.s .z))) rfl rfl ?_
  refine lRd (dNil (.t .z)) rfl rfl ?_
  refine lRd (dFld fld_64_1 (by decide) (.t .z) rfl) rfl rfl ?_
  refine lRd (dLoad .z agg_3 (.t .z) rfl) rfl rfl ?_
  refine lRd (dEq (.t .z) (.c rfl)) rfl rfl ?_
  refine lRdK (dAssign (.t .z)) (.k (.k (.k (.k (.k (.d (Keep.refl _))))))) rfl rfl ?_
  refine lKeep (.k .n) ?_
  refine lNil ?_
  refine xCode ?_
  refine cRet ?_
  refine rLeave hD ?_
  exact lvRet (rs := [.tmp 2]) rfl (.t .z .n) () rfl (.c .z (.c .z (.c .z .nil)))

-- slices.Clone[[]greenscreen/api.Cell,greenscreen/api.Cell]
def slices_Clone_api_Cell_api_Cell_m (a0 : (List api_Cell)) : Option ((List api_Cell)) := (app ([] : List api_Cell) a0).bind fun zs4 => some zs4
theorem slices_Clone_api_Cell_api_Cell_c (a0 : (List api_Cell)) (v0_0 : Value) : Con Try.prog 39 #[v0_0] [.ro (kSl k_api_Cell) [v0_0] a0] (slices_Clone_api_Cell_api_Cell_m a0) (fun (o : (List api_Cell)) (x : Value) => x) (fun (o : (List api_Cell)) (x : Value) => [.own x 44 k_api_Cell o]) := by
  unfold slices_Clone_api_Cell_api_Cell_m
  refine con (args := [v0_0]) Try.func39 rfl 8 rfl (.c .n) rfl fun c hD hrn => ?_
  refine cSeq ?_
  refine cRegion ?_
  refine lRd (dAssign (.c rfl)) rfl rfl ?_
  refine lNil ?_
  refine xCode ?_
  refine cSeq ?_
  refine cSeq ?_
  refine cRegion ?_
  refine lRd (dMove (.t (.s .z))) rfl rfl ?_
  refine lRd (dSlEqNil (slRo .z) und_27 (.t .z) (.c rfl)) rfl rfl ?_
  refine lKeep (.k (.d (.k (.k .n)))) ?_
  refine lNil ?_
  refine xCode ?_
  refine cCondN (.t .z) (fun h1 => ?_) (fun h1 => ?_)
  · refine cFact (nilFact (slRo .z) (by simpa using h1)) fun h2 => ?_
    refine cEq (m' := (some [])) (by rw [h2]; rfl) ?_
    refine cSeq ?_
    refine cRegion ?_
    refine lRdK (dAssign (.c rfl)) (.k (.d (Keep.refl _))) rfl rfl ?_
    refine lKeep (.k (.d (.k .n))) ?_
    refine lNil ?_
    refine xCode ?_
    refine cRet ?_
    refine rLeave hD ?_
    refine lvSt (ownNil 44 k_api_Cell) ?_
    exact lvRet (rs := [.tmp 2]) rfl (.t .z .n) (.slice none 0 0) rfl (.c .z .nil)
  · refine cSkip ?_
    refine xCode ?_
    refine cSeq ?_
    refine cRegion ?_
    refine lCh (cBuildSlice (te := 44) (k := k_api_Cell) (css := []) (xs := ([] : List api_Cell)) und_27 siz_44 zer_44 rfl (by decide) rfl .n rfl (fun zs h => by have : zs = [] := List.eq_nil_of_length_eq_zero h; subst this; rfl) rfl (fun _ _ _ => .nil)) rfl rfl fun b3 => ?_
    refine lRd (dMove (.t (.s (.s (.s .z))))) rfl rfl ?_
    refine lBind fun zs4 h5 => ?_
    refine lCh (cAppend (xs := ([] : List api_Cell)) (ys := a0) .z (srcRo .z) (.t (.s .z)) (.t .z) und_27 und_27 rfl inf_44 rfl (by decide) h5) rfl rfl fun v6 => ?_
    refine lRdK (dAssign (.t .z)) (.k (.k (.k (.k (.d (Keep.refl _)))))) rfl rfl ?_
    refine lKeep (.k .n) ?_
    refine lNil ?_
    refine xCode ?_
    refine cRet ?_
    refine rLeave hD ?_
    exact lvRet (rs := [.tmp 2]) rfl (.t .z .n) v6 rfl (.c .z .nil)

-- slices.Clone[[]greenscreen/api.Cell,greenscreen/api.Cell]
def slices_Clone_api_Cell_api_Cell_v0_m (a0 : (List api_Cell)) : Option ((List api_Cell)) := (app ([] : List api_Cell) a0).bind fun zs4 => some zs4
theorem slices_Clone_api_Cell_api_Cell_v0_c (a0 : (List api_Cell)) (v0_0 : Value) : Con Try.prog 39 #[v0_0] [.own v0_0 44 k_api_Cell a0] (slices_Clone_api_Cell_api_Cell_v0_m a0) (fun (o : (List api_Cell)) (x : Value) => x) (fun (o : (List api_Cell)) (x : Value) => [.own v0_0 44 k_api_Cell a0, .own x 44 k_api_Cell o]) := by
  unfold slices_Clone_api_Cell_api_Cell_v0_m
  refine con (args := [v0_0]) Try.func39 rfl 8 rfl (.c .n) rfl fun c hD hrn => ?_
  refine cSeq ?_
  refine cRegion ?_
  refine lRd (dAssign (.c rfl)) rfl rfl ?_
  refine lNil ?_
  refine xCode ?_
  refine cSeq ?_
  refine cSeq ?_
  refine cRegion ?_
  refine lRd (dMove (.t (.s .z))) rfl rfl ?_
  refine lRd (dSlEqNil (slOwn .z) und_27 (.t .z) (.c rfl)) rfl rfl ?_
  refine lKeep (.k (.d (.k (.k .n)))) ?_
  refine lNil ?_
  refine xCode ?_
  refine cCondN (.t .z) (fun h1 => ?_) (fun h1 => ?_)
  · refine cFact (nilFact (slOwn .z) (by simpa using h1)) fun h2 => ?_
    refine cEq (m' := (some [])) (by rw [h2]; rfl) ?_
    refine cSeq ?_
    refine cRegion ?_
    refine lRdK (dAssign (.c rfl)) (.k (.d (Keep.refl _))) rfl rfl ?_
    refine lKeep (.k (.d (.k .n))) ?_
    refine lNil ?_
    refine xCode ?_
    refine cRet ?_
    refine rLeave hD ?_
    refine lvSt (ownNil 44 k_api_Cell) ?_
    exact lvRet (rs := [.tmp 2]) rfl (.t .z .n) (.slice none 0 0) rfl (.c (.s .z) (.c .z .nil))
  · refine cSkip ?_
    refine xCode ?_
    refine cSeq ?_
    refine cRegion ?_
    refine lCh (cBuildSlice (te := 44) (k := k_api_Cell) (css := []) (xs := ([] : List api_Cell)) und_27 siz_44 zer_44 rfl (by decide) rfl .n rfl (fun zs h => by have : zs = [] := List.eq_nil_of_length_eq_zero h; subst this; rfl) rfl (fun _ _ _ => .nil)) rfl rfl fun b3 => ?_
    refine lRd (dMove (.t (.s (.s (.s .z))))) rfl rfl ?_
    refine lBind fun zs4 h5 => ?_
    refine lCh (cAppend (xs := ([] : List api_Cell)) (ys := a0) .z (srcOwn .z) (.t (.s .z)) (.t .z) und_27 und_27 rfl inf_44 rfl (by decide) h5) rfl rfl fun v6 => ?_
    refine lRdK (dAssign (.t .z)) (.k (.k (.k (.k (.d (Keep.refl _)))))) rfl rfl ?_
    refine lKeep (.k .n) ?_
    refine lNil ?_
    refine xCode ?_
    refine cRet ?_
    refine rLeave hD ?_
    exact lvRet (rs := [.tmp 2]) rfl (.t .z .n) v6 rfl (.c (.s .z) (.c .z .nil))

-- (*greenscreen/plane.Plane).Clone
def plane_Plane_Clone_m (a0 : plane_Plane) : Option (plane_Plane) := (slices_Clone_api_Cell_api_Cell_v0_m a0.f_cells).bind fun o1 => some (⟨a0.f_size, o1, a0.f_cursor⟩ : plane_Plane)
theorem plane_Plane_Clone_c (a0 : plane_Plane) (b0_0 : Nat) (v0_1 : Value) : Con Try.prog 22 #[.pointer (some ⟨b0_0, 0, none⟩)] [.blk b0_0 [.int .i64 a0.f_size.f_Rows, .int .i64 a0.f_size.f_Cols, v0_1, .int .i64 a0.f_cursor] 66, .own v0_1 44 k_api_Cell a0.f_cells] (plane_Plane_Clone_m a0) (fun (o : plane_Plane) (x : Nat × Value) => .pointer (some ⟨x.1, 0, none⟩)) (fun (o : plane_Plane) (x : Nat × Value) => [.blk b0_0 [.int .i64 a0.f_size.f_Rows, .int .i64 a0.f_size.f_Cols, v0_1, .int .i64 a0.f_cursor] 66, .own v0_1 44 k_api_Cell a0.f_cells, .blk x.1 [.int .i64 o.f_size.f_Rows, .int .i64 o.f_size.f_Cols, x.2, .int .i64 o.f_cursor] 66, .own x.2 44 k_api_Cell o.f_cells]) := by
  unfold plane_Plane_Clone_m
  refine con (args := [.pointer (some ⟨b0_0, 0, none⟩)]) Try.func22 rfl 18 rfl (.c .n) rfl fun c hD hrn => ?_
  refine cSeq ?_
  refine cRegion ?_
  refine lRd (dAssign (.c rfl)) rfl rfl ?_
  refine lNil ?_
  refine xCode ?_
  refine cSeq ?_
  refine cRegionM [8, 14] [(0, .quiet), (1, .quiet), (2, .quiet), (3, .quiet), (4, .early), (5, .early), (6, .early), (7, .early), (9, .quiet), (10, .quiet), (11, .quiet), (12, .quiet), (8, .only), (13, .quiet), (14, .only), (15, .quiet)] mixed (by kernel_rfl) (.c .z (.c .z .nil)) (.c (.c .n)) ?_
  refine mRd rfl rfl (fun _ _ _ => dMove (.t (.s .z))) rfl rfl ?_
  refine mRd rfl rfl (fun _ _ _ => dNil (.t .z)) rfl rfl ?_
  refine mRd rfl rfl (fun _ _ _ => dFld fld_66_0 (by decide) (.t .z) rfl) rfl rfl ?_
  refine mRd rfl rfl (fun _ _ _ => dLoadA (us := [.int .i64 a0.f_size.f_Rows, .int .i64 a0.f_size.f_Cols]) .z agg_23 siz_23 rfl (.t .z) rfl) rfl rfl ?_
  refine mRd rfl rfl (fun _ _ _ => dMove (.t (.s (.s (.s (.s (.s .z))))))) rfl rfl ?_
  refine mRd rfl rfl (fun _ _ _ => dNil (.t .z)) rfl rfl ?_
  refine mRd rfl rfl (fun _ _ _ => dFld fld_66_1 (by decide) (.t .z) rfl) rfl rfl ?_
  refine mRd rfl rfl (fun _ _ _ => dLoad .z agg_27 (.t .z) rfl) rfl rfl ?_
  refine mRd rfl rfl (fun _ _ _ => dMove (.t (.s (.s (.s (.s (.s (.s (.s (.s (.s .z))))))))))) rfl rfl ?_
  refine mRd rfl rfl (fun _ _ _ => dNil (.t .z)) rfl rfl ?_
  refine mRd rfl rfl (fun _ _ _ => dFld fld_66_2 (by decide) (.t .z) rfl) rfl rfl ?_
  refine mRd rfl rfl (fun _ _ _ => dLoad .z agg_3 (.t .z) rfl) rfl rfl ?_
  refine mCallF rfl rfl fok_39 (.c (.t (.s (.s (.s (.s .z))))) .n) (slices_Clone_api_Cell_api_Cell_v0_c a0.f_cells v0_1) (.c (.s .z) .n) (fun o1 x2 => (.c (.s (.s .z)) (.c .z (.c .z .nil)))) (fun _ _ => (.c (.c .n))) rfl rfl (fun _ _ => oneOwn (.s (.s .z))) fun o1 x2 h3 h4 => ?_
  refine mRd rfl rfl (fun _ _ _ => dBuild (cs := [.int .i64 a0.f_size.f_Rows, .int .i64 a0.f_size.f_Cols, x2, .int .i64 a0.f_cursor]) zer_66 rfl plc_66 (.c (.t (.s (.s (.s (.s (.s (.s (.s (.s (.s .z)))))))))) (.c (.t .z) (.c (.t (.s .z)) .n))) (by simp only [fillL, cells_one h4] <;> rfl)) rfl rfl ?_
  refine mCh rfl rfl (cBox (cs := [.int .i64 a0.f_size.f_Rows, .int .i64 a0.f_size.f_Cols, x2, .int .i64 a0.f_cursor]) (.t .z) rfl) (fun b5 => (.c (.s .z) (.c (.s .z) (.c .z (.c .z .nil))))) (fun _ => (.c (.c .n))) rfl rfl fun b5 => ?_
  refine mRdK rfl rfl (fun _ _ _ => dAssign (.t .z)) (.k (.k (.k (.k (.k (.k (.k (.k (.k (.k (.k (.k (.k (.k (.k (.d (Keep.refl _))))))))))))))))) rfl rfl ?_
  refine mKeep (.k .n) ?_
  refine mNil ?_
  refine xCode ?_
  refine cRet ?_
  refine rLeave hD ?_
  exact lvRet (rs := [.tmp 2]) rfl (.t .z .n) (b5, x2) rfl (.c .z (.c .z (.c .z (.c .z .nil))))

-- (*greenscreen/screen.Screen).Clone
def screen_Screen_Clone_m (a0 : screen_Screen) : Option (screen_Screen) := (plane_Plane_Clone_m a0.f_p).bind fun o2 => some (⟨a0.f_sizes_0, a0.f_sizes_1, a0.f_which, o2⟩ : screen_Screen)
theorem screen_Screen_Clone_c (a0 : screen_Screen) (b0_0 : Nat) (b0_1 : Nat) (v0_2 : Value) : Con Try.prog 14 #[.pointer (some ⟨b0_0, 0, none⟩)] [.blk b0_0 [.int .i64 a0.f_sizes_0.f_Rows, .int .i64 a0.f_sizes_0.f_Cols, .int .i64 a0.f_sizes_1.f_Rows, .int .i64 a0.f_sizes_1.f_Cols, .int .i64 a0.f_which, .pointer (some ⟨b0_1, 0, none⟩)] 64, .blk b0_1 [.int .i64 a0.f_p.f_size.f_Rows, .int .i64 a0.f_p.f_size.f_Cols, v0_2, .int .i64 a0.f_p.f_cursor] 66, .own v0_2 44 k_api_Cell a0.f_p.f_cells] (screen_Screen_Clone_m a0) (fun (o : screen_Screen) (x : Nat × Nat × Value) => .pointer (some ⟨x.1, 0, none⟩)) (fun (o : screen_Screen) (x : Nat × Nat × Value) => [.blk b0_0 [.int .i64 a0.f_sizes_0.f_Rows, .int .i64 a0.f_sizes_0.f_Cols, .int .i64 a0.f_sizes_1.f_Rows, .int .i64 a0.f_sizes_1.f_Cols, .int .i64 a0.f_which, .pointer (some ⟨b0_1, 0, none⟩)] 64, .blk b0_1 [.int .i64 a0.f_p.f_size.f_Rows, .int .i64 a0.f_p.f_size.f_Cols, v0_2, .int .i64 a0.f_p.f_cursor] 66, .own v0_2 44 k_api_Cell a0.f_p.f_cells, .blk x.1 [.int .i64 o.f_sizes_0.f_Rows, .int .i64 o.f_sizes_0.f_Cols, .int .i64 o.f_sizes_1.f_Rows, .int .i64 o.f_sizes_1.f_Cols, .int .i64 o.f_which, .pointer (some ⟨x.2.1, 0, none⟩)] 64, .blk x.2.1 [.int .i64 o.f_p.f_size.f_Rows, .int .i64 o.f_p.f_size.f_Cols, x.2.2, .int .i64 o.f_p.f_cursor] 66, .own x.2.2 44 k_api_Cell o.f_p.f_cells]) := by
  unfold screen_Screen_Clone_m
  refine con (args := [.pointer (some ⟨b0_0, 0, none⟩)]) Try.func14 rfl 13 rfl (.c .n) rfl fun c hD hrn => ?_
  refine cSeq ?_
  refine cRegion ?_
  refine lRd (dAssign (.c rfl)) rfl rfl ?_
  refine lNil ?_
  refine xCode ?_
  refine cSeq ?_
  refine cRegion ?_
  refine lRd (dMove (.t (.s .z))) rfl rfl ?_
  refine lRd (dNil (.t .z)) rfl rfl ?_
  refine lRd (dLoadA (us := [.int .i64 a0.f_sizes_0.f_Rows, .int .i64 a0.f_sizes_0.f_Cols, .int .i64 a0.f_sizes_1.f_Rows, .int .i64 a0.f_sizes_1.f_Cols, .int .i64 a0.f_which, .pointer (some ⟨b0_1, 0, none⟩)]) .z agg_64 siz_64 rfl (.t .z) rfl) rfl rfl ?_
  refine lCh (cAlloc (cs := [.int .i64 0, .int .i64 0, .int .i64 0, .int .i64 0, .int .i64 0, .pointer none]) zer_64 rfl) rfl rfl fun b1 => ?_
  refine lChU (uStoreA (us := [.int .i64 a0.f_sizes_0.f_Rows, .int .i64 a0.f_sizes_0.f_Cols, .int .i64 a0.f_sizes_1.f_Rows, .int .i64 a0.f_sizes_1.f_Cols, .int .i64 a0.f_which, .pointer (some ⟨b0_1, 0, none⟩)]) (cs' := [.int .i64 a0.f_sizes_0.f_Rows, .int .i64 a0.f_sizes_0.f_Cols, .int .i64 a0.f_sizes_1.f_Rows, .int .i64 a0.f_sizes_1.f_Cols, .int .i64 a0.f_which, .pointer (some ⟨b0_1, 0, none⟩)]) .z siz_64 rfl (by intro u hu; simp only [List.mem_cons, List.not_mem_nil, or_false] at hu; rcases hu with rfl | rfl | rfl | rfl | rfl | rfl <;> first | rfl | assumption) rfl (by simp) (.t .z) (.t (.s .z))) ?_
  refine lKeep (.k (.d (.d (.d (.k (.k .n)))))) ?_
  refine lNil ?_
  refine xCode ?_
  refine cSeq ?_
  refine cRegion ?_
  refine lRd (dMove (.t (.s (.s .z)))) rfl rfl ?_
  refine lRd (dNil (.t .z)) rfl rfl ?_
  refine lRd (dFld fld_64_2 (by decide) (.t .z) rfl) rfl rfl ?_
  refine lRd (dLoad (.s .z) agg_39 (.t .z) rfl) rfl rfl ?_
  refine lCall fok_22 (.c (.t .z) .n) (plane_Plane_Clone_c a0.f_p b0_1 v0_2) (.c (.s (.s .z)) (.c (.s (.s .z)) .n)) rfl rfl fun o2 x3 h4 => ?_
  refine lRd (dFld fld_64_2 (by decide) (.t (.s (.s (.s (.s (.s .z)))))) rfl) rfl rfl ?_
  refine lChU (uStore (.s (.s (.s (.s .z)))) siz_39 rfl (.s (.s (.s (.s (.s .z))))) (.t .z) (.t (.s .z))) ?_
  refine lKeep (.d (.d (.d (.d (.d (.d (.k (.k .n)))))))) ?_
  refine lNil ?_
  refine xCode ?_
  refine cSeq ?_
  refine cRegion ?_
  refine lRdK (dAssign (.t .z)) (.k (.d (Keep.refl _))) rfl rfl ?_
  refine lKeep (.k .n) ?_
  refine lNil ?_
  refine xCode ?_
  refine cRet ?_
  refine rLeave hD ?_
  exact lvRet (rs := [.tmp 2]) rfl (.t .z .n) (b1, x3.1, x3.2) rfl (.c (.s (.s (.s (.s (.s .z))))) (.c .z (.c .z (.c (.s (.s .z)) (.c .z (.c .z .nil))))))

-- (*greenscreen/screen.Screen).Clear
def screen_Screen_Clear_m (a0 : screen_Screen) : Option (screen_Screen) := (screen_Screen_renew_m a0 0).bind fun o1 => some o1
theorem screen_Screen_Clear_c (a0 : screen_Screen) (b0_0 : Nat) (b0_1 : Nat) (v0_2 : Value) : Con Try.prog 17 #[.pointer (some ⟨b0_0, 0, none⟩)] [.blk b0_0 [.int .i64 a0.f_sizes_0.f_Rows, .int .i64 a0.f_sizes_0.f_Cols, .int .i64 a0.f_sizes_1.f_Rows, .int .i64 a0.f_sizes_1.f_Cols, .int .i64 a0.f_which, .pointer (some ⟨b0_1, 0, none⟩)] 64, .blk b0_1 [.int .i64 a0.f_p.f_size.f_Rows, .int .i64 a0.f_p.f_size.f_Cols, v0_2, .int .i64 a0.f_p.f_cursor] 66, .own v0_2 44 k_api_Cell a0.f_p.f_cells] (screen_Screen_Clear_m a0) (fun (o : screen_Screen) (x : Nat × Value) => .tuple #[]) (fun (o : screen_Screen) (x : Nat × Value) => [.blk b0_0 [.int .i64 o.f_sizes_0.f_Rows, .int .i64 o.f_sizes_0.f_Cols, .int .i64 o.f_sizes_1.f_Rows, .int .i64 o.f_sizes_1.f_Cols, .int .i64 o.f_which, .pointer (some ⟨x.1, 0, none⟩)] 64, .blk x.1 [.int .i64 o.f_p.f_size.f_Rows, .int .i64 o.f_p.f_size.f_Cols, x.2, .int .i64 o.f_p.f_cursor] 66, .own x.2 44 k_api_Cell o.f_p.f_cells]) := by
  unfold screen_Screen_Clear_m
  refine con (args := [.pointer (some ⟨b0_0, 0, none⟩)]) Try.func17 rfl 4 rfl (.c .n) rfl fun c hD hrn => ?_
  refine cRegion ?_
  refine lRd (dMove (.t .z)) rfl rfl ?_
  refine lCallN fok_25 (.c (.t .z) (.c (.c rfl) .n)) (screen_Screen_renew_c a0 0 b0_0 b0_1 v0_2) (.c .z (.c .z (.c .z .n))) rfl fun o1 x2 h3 => ?_
  refine lKeep .n ?_
  refine lNil ?_
  refine xLeave hD ?_
  exact lvRet (rs := []) rfl .n (x2.1, x2.2) rfl (.c .z (.c .z (.c .z .nil)))

-- (*greenscreen/screen.Screen).renew
def screen_Screen_renew_v0_m (a0 : screen_Screen) (a1 : Int) : Option (screen_Screen) := (if a1 = 0 then (plane_New_m a0.f_sizes_0).bind (onE (fun (o2 : plane_Plane) => some (⟨a0.f_sizes_0, a0.f_sizes_1, a1, o2⟩ : screen_Screen)) (fun (o5 : Unit) => none)) else (if a1 = 1 then (plane_New_m a0.f_sizes_1).bind (onE (fun (o9 : plane_Plane) => some (⟨a0.f_sizes_0, a0.f_sizes_1, a1, o9⟩ : screen_Screen)) (fun (o12 : Unit) => none)) else none))
theorem screen_Screen_renew_v0_c (a0 : screen_Screen) (a1 : Int) (b0_0 : Nat) : Con Try.prog 25 #[.pointer (some ⟨b0_0, 0, none⟩), .int .i64 a1] [.blk b0_0 [.int .i64 a0.f_sizes_0.f_Rows, .int .i64 a0.f_sizes_0.f_Cols, .int .i64 a0.f_sizes_1.f_Rows, .int .i64 a0.f_sizes_1.f_Cols, .int .i64 a0.f_which, .pointer none] 64] (screen_Screen_renew_v0_m a0 a1) (fun (o : screen_Screen) (x : Nat × Value) => .tuple #[]) (fun (o : screen_Screen) (x : Nat × Value) => [.blk b0_0 [.int .i64 o.f_sizes_0.f_Rows, .int .i64 o.f_sizes_0.f_Cols, .int .i64 o.f_sizes_1.f_Rows, .int .i64 o.f_sizes_1.f_Cols, .int .i64 o.f_which, .pointer (some ⟨x.1, 0, none⟩)] 64, .blk x.1 [.int .i64 o.f_p.f_size.f_Rows, .int .i64 o.f_p.f_size.f_Cols, x.2, .int .i64 o.f_p.f_cursor] 66, .own x.2 44 k_api_Cell o.f_p.f_cells]) := by
  unfold screen_Screen_renew_v0_m
  refine con (args := [.pointer (some ⟨b0_0, 0, none⟩), .int .i64 a1]) Try.func25 rfl 21 rfl (.c (.c .n)) rfl fun c hD hrn => ?_
  refine cSeq ?_
  refine cRegion ?_
  refine lRd (dMove (.t .z)) rfl rfl ?_
  refine lRd (dMove (.t (.s (.s .z)))) rfl rfl ?_
  refine lRd (dNil (.t (.s .z))) rfl rfl ?_
  refine lRd (dFld fld_64_1 (by decide) (.t .z) rfl) rfl rfl ?_
  refine lChU (uStore .z siz_3 rfl (.s (.s (.s (.s .z)))) (.t .z) (.t (.s (.s .z)))) ?_
  refine lKeep (.d (.d (.d (.d (.k (.k .n)))))) ?_
  refine lNil ?_
  refine xCode ?_
  refine cRegion ?_
  refine lRd (dMove (.t .z)) rfl rfl ?_
  refine lRd (dMove (.t (.s .z))) rfl rfl ?_
  refine lRd (dMove (.t (.s (.s (.s .z))))) rfl rfl ?_
  refine lRd (dNil (.t (.s .z))) rfl rfl ?_
  refine lRd (dFld fld_64_0 (by decide) (.t .z) rfl) rfl rfl ?_
  refine lCase (fun h1 => ?_) (fun h1 => ?_)
  · refine lRd (dIxArrV h1 und_62 siz_23 (.t .z) (.t (.s (.s .z))) (by decide) (by decide)) rfl rfl ?_
    refine lRd (dLoadA (us := [.int .i64 a0.f_sizes_0.f_Rows, .int .i64 a0.f_sizes_0.f_Cols]) .z agg_23 siz_23 rfl (.t .z) rfl) rfl rfl ?_
    refine lCallS fok_40 (.c (.t .z) .n) (plane_New_c a0.f_sizes_0) .n rfl rfl (fun o2 x3 h4 => ?_) (fun o5 x6 h7 => ?_)
    · refine lRd (dMove (.t .z)) rfl rfl ?_
      refine lRd (dExtract (.t .z) rfl) rfl rfl ?_
      refine lRdN (dExtract (.t (.s .z)) rfl) rfl ?_
      refine lRd (dNil (.t (.s (.s (.s (.s (.s (.s (.s (.s (.s .z))))))))))) rfl rfl ?_
      refine lRd (dFld fld_64_2 (by decide) (.t .z) rfl) rfl rfl ?_
      refine lChU (uStore (.s (.s .z)) siz_39 rfl (.s (.s (.s (.s (.s .z))))) (.t .z) (.t (.s (.s .z)))) ?_
      refine lKeep .n ?_
      refine lNil ?_
      refine xLeave hD ?_
      exact lvRet (rs := []) rfl .n (x3.1.1, x3.1.2) rfl (.c (.s (.s .z)) (.c .z (.c .z .nil)))
    · refine lRd (dMove (.t .z)) rfl rfl ?_
      refine lRd (dExtract (.t .z) rfl) rfl rfl ?_
      refine lRdN (dExtract (.t (.s .z)) rfl) rfl ?_
      refine lRd (dNil (.t (.s (.s (.s (.s (.s (.s (.s (.s (.s .z))))))))))) rfl rfl ?_
      refine lRd (dFld fld_64_2 (by decide) (.t .z) rfl) rfl rfl ?_
      refine lChU (uStore .z siz_39 rfl (.s (.s (.s (.s (.s .z))))) (.t .z) (.t (.s (.s .z)))) ?_
      refine lKeep .n ?_
      refine lNil ?_
      exact xStuck
  · refine lCase (fun h8 => ?_) (fun h8 => ?_)
    · refine lRd (dIxArrV h8 und_62 siz_23 (.t .z) (.t (.s (.s .z))) (by decide) (by decide)) rfl rfl ?_
      refine lRd (dLoadA (us := [.int .i64 a0.f_sizes_1.f_Rows, .int .i64 a0.f_sizes_1.f_Cols]) .z agg_23 siz_23 rfl (.t .z) rfl) rfl rfl ?_
      refine lCallS fok_40 (.c (.t .z) .n) (plane_New_c a0.f_sizes_1) .n rfl rfl (fun o9 x10 h11 => ?_) (fun o12 x13 h14 => ?_)
      · refine lRd (dMove (.t .z)) rfl rfl ?_
        refine lRd (dExtract (.t .z) rfl) rfl rfl ?_
        refine lRdN (dExtract (.t (.s .z)) rfl) rfl ?_
        refine lRd (dNil (.t (.s (.s (.s (.s (.s (.s (.s (.s (.s .z))))))))))) rfl rfl ?_
        refine lRd (dFld fld_64_2 (by decide) (.t .z) rfl) rfl rfl ?_
        refine lChU (uStore (.s (.s .z)) siz_39 rfl (.s (.s (.s (.s (.s .z))))) (.t .z) (.t (.s (.s .z)))) ?_
        refine lKeep .n ?_
        refine lNil ?_
        refine xLeave hD ?_
        exact lvRet (rs := []) rfl .n (x10.1.1, x10.1.2) rfl (.c (.s (.s .z)) (.c .z (.c .z .nil)))
      · refine lRd (dMove (.t .z)) rfl rfl ?_
        refine lRd (dExtract (.t .z) rfl) rfl rfl ?_
        refine lRdN (dExtract (.t (.s .z)) rfl) rfl ?_
        refine lRd (dNil (.t (.s (.s (.s (.s (.s (.s (.s (.s (.s .z))))))))))) rfl rfl ?_
        refine lRd (dFld fld_64_2 (by decide) (.t .z) rfl) rfl rfl ?_
        refine lChU (uStore .z siz_39 rfl (.s (.s (.s (.s (.s .z))))) (.t .z) (.t (.s (.s .z)))) ?_
        refine lKeep .n ?_
        refine lNil ?_
        exact xStuck
    · exact lStuck

-- (*greenscreen/screen.Screen).Clear
def screen_Screen_Clear_v0_m (a0 : screen_Screen) : Option (screen_Screen) := (screen_Screen_renew_v0_m (⟨a0.f_sizes_0, a0.f_sizes_1, a0.f_which, (default : plane_Plane)⟩ : screen_Screen) 0).bind fun o1 => some o1
theorem screen_Screen_Clear_v0_c (a0 : screen_Screen) (b0_0 : Nat) : Con Try.prog 17 #[.pointer (some ⟨b0_0, 0, none⟩)] [.blk b0_0 [.int .i64 a0.f_sizes_0.f_Rows, .int .i64 a0.f_sizes_0.f_Cols, .int .i64 a0.f_sizes_1.f_Rows, .int .i64 a0.f_sizes_1.f_Cols, .int .i64 a0.f_which, .pointer none] 64] (screen_Screen_Clear_v0_m a0) (fun (o : screen_Screen) (x : Nat × Value) => .tuple #[]) (fun (o : screen_Screen) (x : Nat × Value) => [.blk b0_0 [.int .i64 o.f_sizes_0.f_Rows, .int .i64 o.f_sizes_0.f_Cols, .int .i64 o.f_sizes_1.f_Rows, .int .i64 o.f_sizes_1.f_Cols, .int .i64 o.f_which, .pointer (some ⟨x.1, 0, none⟩)] 64, .blk x.1 [.int .i64 o.f_p.f_size.f_Rows, .int .i64 o.f_p.f_size.f_Cols, x.2, .int .i64 o.f_p.f_cursor] 66, .own x.2 44 k_api_Cell o.f_p.f_cells]) := by
  unfold screen_Screen_Clear_v0_m
  refine con (args := [.pointer (some ⟨b0_0, 0, none⟩)]) Try.func17 rfl 4 rfl (.c .n) rfl fun c hD hrn => ?_
  refine cRegion ?_
  refine lRd (dMove (.t .z)) rfl rfl ?_
  refine lCallN fok_25 (.c (.t .z) (.c (.c rfl) .n)) (screen_Screen_renew_v0_c (⟨a0.f_sizes_0, a0.f_sizes_1, a0.f_which, (default : plane_Plane)⟩ : screen_Screen) 0 b0_0) (.c .z .n) rfl fun o1 x2 h3 => ?_
  refine lKeep .n ?_
  refine lNil ?_
  refine xLeave hD ?_
  exact lvRet (rs := []) rfl .n (x2.1, x2.2) rfl (.c .z (.c .z (.c .z .nil)))

-- greenscreen/screen.New
def screen_New_m (a0 : api_Size) (a1 : api_Size) : Option (Sum (screen_Screen) (Unit)) := ((addr_Cells_m a0).bind fun o3 => (if o3 = 0 then some true else (addr_Cells_m a1).bind fun o7 => some (decide (o7 = 0)))).bind fun (s10 : Bool) => (if s10 = true then some (Sum.inr ()) else (screen_Screen_Clear_v0_m (⟨a0, a1, 0, (default : plane_Plane)⟩ : screen_Screen)).bind fun o14 => some (Sum.inl o14))
theorem screen_New_c (a0 : api_Size) (a1 : api_Size) : Con Try.prog 16 #[.agg #[.int .i64 a0.f_Rows, .int .i64 a0.f_Cols], .agg #[.int .i64 a1.f_Rows, .int .i64 a1.f_Cols]] [] (screen_New_m a0 a1) (resS (fun (o : screen_Screen) (x : (Nat × Nat × Value) × (Unit)) => .tuple #[.pointer (some ⟨x.1.1, 0, none⟩), .int .i64 0]) (fun (e : Unit) (x : (Nat × Nat × Value) × (Unit)) => .tuple #[.pointer none, .int .i64 1])) (loE (fun (o : screen_Screen) (x : (Nat × Nat × Value) × (Unit)) => [.blk x.1.1 [.int .i64 o.f_sizes_0.f_Rows, .int .i64 o.f_sizes_0.f_Cols, .int .i64 o.f_sizes_1.f_Rows, .int .i64 o.f_sizes_1.f_Cols, .int .i64 o.f_which, .pointer (some ⟨x.1.2.1, 0, none⟩)] 64, .blk x.1.2.1 [.int .i64 o.f_p.f_size.f_Rows, .int .i64 o.f_p.f_size.f_Cols, x.1.2.2, .int .i64 o.f_p.f_cursor] 66, .own x.1.2.2 44 k_api_Cell o.f_p.f_cells]) (fun (e : Unit) (x : (Nat × Nat × Value) × (Unit)) => [])) := by
  unfold screen_New_m
  refine con (args := [.agg #[.int .i64 a0.f_Rows, .int .i64 a0.f_Cols], .agg #[.int .i64 a1.f_Rows, .int .i64 a1.f_Cols]]) Try.func16 rfl 23 rfl (.c (.c .n)) rfl fun c hD hrn => ?_
  refine cSeq ?_
  refine cRegion ?_
  refine lCh (cBox (cs := [.int .i64 a0.f_Rows, .int .i64 a0.f_Cols]) (.t .z) rfl) rfl rfl fun b1 => ?_
  refine lCh (cBox (cs := [.int .i64 a1.f_Rows, .int .i64 a1.f_Cols]) (.t (.s (.s .z))) rfl) rfl rfl fun b2 => ?_
  refine lRd (dAssign (.c rfl)) rfl rfl ?_
  refine lRd (dAssign (.c rfl)) rfl rfl ?_
  refine lKeep (.k (.k (.k (.k .n)))) ?_
  refine lNil ?_
  refine xCode ?_
  refine cSeq ?_
  refine cSeq ?_
  refine cJoin (S := Bool) (X := Unit) (fun (s : Bool) (x : Unit) => [(14, .bool s), (5, .int .i64 0), (4, .pointer none), (3, .pointer (some ⟨b2, 0, none⟩)), (2, .pointer (some ⟨b1, 0, none⟩))]) (fun (s : Bool) (x : Unit) => [.blk b2 [.int .i64 a1.f_Rows, .int .i64 a1.f_Cols] 23, .blk b1 [.int .i64 a0.f_Rows, .int .i64 a0.f_Cols] 23]) ?_ (fun s10 x11 => ?_)
  · refine cRegion ?_
    refine lRd (dLoadA (us := [.int .i64 a0.f_Rows, .int .i64 a0.f_Cols]) (.s .z) agg_23 siz_23 rfl (.t (.s (.s (.s .z)))) rfl) rfl rfl ?_
    refine lCall fok_24 (.c (.t .z) .n) (addr_Cells_c a0) .n rfl rfl fun o3 x4 h5 => ?_
    refine lRd (dEq (.t .z) (.c rfl)) rfl rfl ?_
    refine lRd (dMove (.t .z)) rfl rfl ?_
    refine lCase (fun h6 => ?_) (fun h6 => ?_)
    · refine lPass rfl .z (nbF (decide_eq_true h6)) rfl ?_
      refine lPass rfl .z (nbF (decide_eq_true h6)) rfl ?_
      refine lPass rfl .z (nbF (decide_eq_true h6)) rfl ?_
      refine lRd (dPickT (.t .z) (decide_eq_true h6) (.c rfl)) rfl rfl ?_
      refine lKeep (.k (.d (.d (.d (.d (.k (.k (.k (.k .n))))))))) ?_
      refine lNil ?_
      exact xJoin true () (.c .z (.c (.s .z) (.c (.s (.s .z)) (.c (.s (.s (.s .z))) (.c (.s (.s (.s (.s .z)))) .n))))) (.c .z (.c .z .nil))
    · refine lRdG rfl .z (decide_eq_false h6) (dLoadA (us := [.int .i64 a1.f_Rows, .int .i64 a1.f_Cols]) .z agg_23 siz_23 rfl (.t (.s (.s (.s (.s (.s (.s .z))))))) rfl) rfl rfl ?_
      refine lCallG rfl (.s .z) (decide_eq_false h6) fok_24 (.c (.t .z) .n) (addr_Cells_c a1) .n rfl rfl fun o7 x8 h9 => ?_
      refine lRdG rfl (.s (.s .z)) (decide_eq_false h6) (dEq (.t .z) (.c rfl)) rfl rfl ?_
      refine lRd (dPickF (.t (.s (.s (.s .z)))) (decide_eq_false h6) (.t .z)) rfl rfl ?_
      refine lKeep (.k (.d (.d (.d (.d (.d (.d (.d (.k (.k (.k (.k .n)))))))))))) ?_
      refine lNil ?_
      exact xJoin (decide (o7 = 0)) () (.c .z (.c (.s .z) (.c (.s (.s .z)) (.c (.s (.s (.s .z))) (.c (.s (.s (.s (.s .z)))) .n))))) (.c .z (.c .z .nil))
  · refine xCode ?_
    refine cCondB (.t .z) (fun h12 => ?_) (fun h12 => ?_)
    · refine cSeq ?_
      refine cRegion ?_
      refine lRdK (dAssign (.c rfl)) (.k (.k (.d (Keep.refl _)))) rfl rfl ?_
      refine lRdK (dAssign (.c rfl)) (.k (.k (.d (Keep.refl _)))) rfl rfl ?_
      refine lKeep (.k (.k (.d (.k (.k .n))))) ?_
      refine lNil ?_
      refine xCode ?_
      refine cRet ?_
      refine rLeave hD ?_
      exact lvRet (rs := [.tmp 4, .tmp 5]) rfl (.t (.s .z) (.t .z .n)) ((0, 0, undef), ()) rfl .nil
    · refine cSkip ?_
      refine xCode ?_
      refine cSeq ?_
      refine cRegion ?_
      refine lRd (dLoadA (us := [.int .i64 a0.f_Rows, .int .i64 a0.f_Cols]) (.s .z) agg_23 siz_23 rfl (.t (.s (.s (.s (.s .z))))) rfl) rfl rfl ?_
      refine lRd (dLoadA (us := [.int .i64 a1.f_Rows, .int .i64 a1.f_Cols]) .z agg_23 siz_23 rfl (.t (.s (.s (.s (.s .z))))) rfl) rfl rfl ?_
      refine lRd (dBuildArr (cs := [.int .i64 a0.f_Rows, .int .i64 a0.f_Cols, .int .i64 a1.f_Rows, .int .i64 a1.f_Cols]) zer_62 rfl und_62 siz_23 (.c (.t (.s .z)) (.c (.t .z) .n)) rfl) rfl rfl ?_
      refine lRd (dBuild (cs := [.int .i64 a0.f_Rows, .int .i64 a0.f_Cols, .int .i64 a1.f_Rows, .int .i64 a1.f_Cols, .int .i64 0, .pointer none]) zer_64 rfl plc_64 (.c (.t .z) .n) rfl) rfl rfl ?_
      refine lCh (cBox (cs := [.int .i64 a0.f_Rows, .int .i64 a0.f_Cols, .int .i64 a1.f_Rows, .int .i64 a1.f_Cols, .int .i64 0, .pointer none]) (.t .z) rfl) rfl rfl fun b13 => ?_
      refine lRd (dAssign (.t .z)) rfl rfl ?_
      refine lKeep (.k (.d (.d (.d (.d (.d (.d (.k (.k .n))))))))) ?_
      refine lNil ?_
      refine xCode ?_
      refine cSeq ?_
      refine cRegion ?_
      refine lRd (dMove (.t .z)) rfl rfl ?_
      refine lCallN fok_17 (.c (.t .z) .n) (screen_Screen_Clear_v0_c (⟨a0, a1, 0, (default : plane_Plane)⟩ : screen_Screen) b13) (.c .z .n) rfl fun o14 x15 h16 => ?_
      refine lKeep (.d (.k (.k (.k .n)))) ?_
      refine lNil ?_
      refine xCode ?_
      refine cSeq ?_
      refine cRegion ?_
      refine lRd (dMove (.t .z)) rfl rfl ?_
      refine lRdK (dAssign (.t .z)) (.k (.k (.k (.d (Keep.refl _))))) rfl rfl ?_
      refine lRdK (dAssign (.c rfl)) (.k (.k (.k (.d (Keep.refl _))))) rfl rfl ?_
      refine lKeep (.k (.k .n)) ?_
      refine lNil ?_
      refine xCode ?_
      refine cRet ?_
      refine rLeave hD ?_
      exact lvRet (rs := [.tmp 4, .tmp 5]) rfl (.t (.s .z) (.t .z .n)) ((b13, x15.1, x15.2), ()) rfl (.c .z (.c .z (.c .z .nil)))

-- greenscreen/greenscreenlaw18.alive
def law18_alive_m (K : Nat) : Option (Bool) := (screen_New_m (⟨1, 6⟩ : api_Size) (⟨2, 6⟩ : api_Size)).bind (onE (fun (o1 : screen_Screen) => (screen_New_m (⟨0, 0⟩ : api_Size) (⟨2, 6⟩ : api_Size)).bind (onE (fun (o7 : screen_Screen) => ((screen_Screen_Plane_m o1).bind fun o13 => some ()).bind fun (s16 : Unit) => (screen_Screen_Run_m K o1 ([(245 : UInt8), (195 : UInt8), (17 : UInt8), (64 : UInt8), (195 : UInt8), (193 : UInt8)] : List UInt8)).bind fun o19 => (screen_Screen_Plane_m o19.1).bind fun o23 => (plane_Plane_At_m o19.1.f_p 3).bind fun o26 => (screen_Screen_Clone_m o19.1).bind fun o30 => (screen_Screen_Run_m K o19.1 ([(32 : UInt8)] : List UInt8)).bind fun o34 => (screen_Screen_Run_m K o34.1 ([(246 : UInt8)] : List UInt8)).bind fun o39 => (screen_Screen_Run_m K o39.1 ([(126 : UInt8), (0 : UInt8)] : List UInt8)).bind fun o44 => (screen_Screen_Other_m o44.1).bind fun o47 => (screen_Screen_Clear_m o44.1).bind fun o50 => some false) (fun (o10 : Unit) => ((screen_Screen_Plane_m o1).bind fun o53 => some ()).bind fun (s56 : Unit) => (screen_Screen_Run_m K o1 ([(245 : UInt8), (195 : UInt8), (17 : UInt8), (64 : UInt8), (195 : UInt8), (193 : UInt8)] : List UInt8)).bind fun o59 => (screen_Screen_Plane_m o59.1).bind fun o63 => (plane_Plane_At_m o59.1.f_p 3).bind fun o66 => (screen_Screen_Clone_m o59.1).bind fun o70 => (screen_Screen_Run_m K o59.1 ([(32 : UInt8)] : List UInt8)).bind fun o74 => (screen_Screen_Run_m K o74.1 ([(246 : UInt8)] : List UInt8)).bind fun o79 => (screen_Screen_Run_m K o79.1 ([(126 : UInt8), (0 : UInt8)] : List UInt8)).bind fun o84 => (screen_Screen_Other_m o84.1).bind fun o87 => (screen_Screen_Clear_m o84.1).bind fun o90 => (if o59.2 = (⟨0, true, false, 0⟩ : screen_Result) then (if o66.f_Byte = (193 : UInt8) then (if o74.2.f_Err = 30 then (if o79.2.f_Reply = (246 : UInt8) then (if o87 = true then (screen_Screen_Other_m o90).bind fun o98 => (if (!o98) = true then (screen_Screen_Plane_m o70).bind fun o102 => (plane_Plane_At_m o70.f_p 3).bind fun o105 => some (decide (o105.f_Byte = (193 : UInt8))) else some false) else some false) else some false) else some false) else some false) else some false)))) (fun (o4 : Unit) => (screen_New_m (⟨0, 0⟩ : api_Size) (⟨2, 6⟩ : api_Size)).bind (onE (fun (o108 : screen_Screen) => (some ()).bind fun (s114 : Unit) => some false) (fun (o111 : Unit) => (some ()).bind fun (s116 : Unit) => some false))))
theorem law18_alive_c (K : Nat) : Con Try.prog 6 #[] [] (law18_alive_m K) (fun (o : Bool) (x : Unit) => .bool o) (fun (o : Bool) (x : Unit) => []) := by
  unfold law18_alive_m
  refine con (args := []) Try.func6 rfl 96 rfl .n rfl fun c hD hrn => ?_
  refine cSeq ?_
  refine cRegion ?_
  refine lRd (dAssign (.c rfl)) rfl rfl ?_
  refine lNil ?_
  refine xCode ?_
  refine cSeq ?_
  refine cRegion ?_
  refine lRd (dBuild (cs := [.int .i64 1, .int .i64 6]) zer_23 rfl plc_23 (.c (.c rfl) (.c (.c rfl) .n)) rfl) rfl rfl ?_
  refine lRd (dBuild (cs := [.int .i64 2, .int .i64 6]) zer_23 rfl plc_23 (.c (.c rfl) (.c (.c rfl) .n)) rfl) rfl rfl ?_
  refine lCallS fok_16 (.c (.t (.s .z)) (.c (.t .z) .n)) (screen_New_c (⟨1, 6⟩ : api_Size) (⟨2, 6⟩ : api_Size)) .n rfl rfl (fun o1 x2 h3 => ?_) (fun o4 x5 h6 => ?_)
  · refine lRd (dMove (.t .z)) rfl rfl ?_
    refine lRd (dExtract (.t .z) rfl) rfl rfl ?_
    refine lRd (dExtract (.t (.s .z)) rfl) rfl rfl ?_
    refine lRd (dAssign (.t (.s .z))) rfl rfl ?_
    refine lRd (dAssign (.t (.s .z))) rfl rfl ?_
    refine lKeep (.k (.k (.d (.d (.d (.d (.d (.d (.k .n))))))))) ?_
    refine lNil ?_
    refine xCode ?_
    refine cSeq ?_
    refine cRegion ?_
    refine lRd (dBuild (cs := [.int .i64 0, .int .i64 0]) zer_23 rfl plc_23 .n rfl) rfl rfl ?_
    refine lRd (dBuild (cs := [.int .i64 2, .int .i64 6]) zer_23 rfl plc_23 (.c (.c rfl) (.c (.c rfl) .n)) rfl) rfl rfl ?_
    refine lCallS fok_16 (.c (.t (.s .z)) (.c (.t .z) .n)) (screen_New_c (⟨0, 0⟩ : api_Size) (⟨2, 6⟩ : api_Size)) .n rfl rfl (fun o7 x8 h9 => ?_) (fun o10 x11 h12 => ?_)
    · refine lRd (dMove (.t .z)) rfl rfl ?_
      refine lRd (dExtract (.t .z) rfl) rfl rfl ?_
      refine lRd (dExtract (.t (.s .z)) rfl) rfl rfl ?_
      refine lRdN (dAssign (.t (.s .z))) rfl ?_
      refine lRd (dAssign (.t .z)) rfl rfl ?_
      refine lKeep (.k (.d (.d (.d (.d (.d (.d (.k (.k (.k .n)))))))))) ?_
      refine lNil ?_
      refine xCode ?_
      refine cSeq ?_
      refine cSeq ?_
      refine cJoin (S := Unit) (X := Unit) (fun (s : Unit) (x : Unit) => [(29, .bool false), (4, .int .i64 0), (2, .int .i64 0), (1, .pointer (some ⟨x2.1.1, 0, none⟩)), (0, .bool false)]) (fun (s : Unit) (x : Unit) => [.blk x2.1.1 [.int .i64 o1.f_sizes_0.f_Rows, .int .i64 o1.f_sizes_0.f_Cols, .int .i64 o1.f_sizes_1.f_Rows, .int .i64 o1.f_sizes_1.f_Cols, .int .i64 o1.f_which, .pointer (some ⟨x2.1.2.1, 0, none⟩)] 64, .blk x2.1.2.1 [.int .i64 o1.f_p.f_size.f_Rows, .int .i64 o1.f_p.f_size.f_Cols, x2.1.2.2, .int .i64 o1.f_p.f_cursor] 66, .own x2.1.2.2 44 k_api_Cell o1.f_p.f_cells, .blk x8.1.1 [.int .i64 o7.f_sizes_0.f_Rows, .int .i64 o7.f_sizes_0.f_Cols, .int .i64 o7.f_sizes_1.f_Rows, .int .i64 o7.f_sizes_1.f_Cols, .int .i64 o7.f_which, .pointer (some ⟨x8.1.2.1, 0, none⟩)] 64, .blk x8.1.2.1 [.int .i64 o7.f_p.f_size.f_Rows, .int .i64 o7.f_p.f_size.f_Cols, x8.1.2.2, .int .i64 o7.f_p.f_cursor] 66, .own x8.1.2.2 44 k_api_Cell o7.f_p.f_cells]) ?_ (fun s16 x17 => ?_)
      · refine cRegion ?_
        refine lRd (dMove (.t (.s (.s .z)))) rfl rfl ?_
        refine lRd (dPtrEqNil und_26 (.t .z) (.c rfl)) rfl rfl ?_
        refine lRd (dMove (.t .z)) rfl rfl ?_
        refine lRdG rfl .z rfl (dMove (.t (.s (.s (.s (.s (.s .z))))))) rfl rfl ?_
        refine lCallG rfl (.s .z) rfl fok_9 (.c (.t .z) .n) (screen_Screen_Plane_c o1 x2.1.1 x2.1.2.1 x2.1.2.2) (.c (.s (.s (.s .z))) (.c (.s (.s (.s .z))) (.c (.s (.s (.s .z))) .n))) rfl rfl fun o13 x14 h15 => ?_
        refine lRdG rfl (.s (.s .z)) rfl (dPtrEqNil und_39 (.t .z) (.c rfl)) rfl rfl ?_
        refine lRd (dPickF (.t (.s (.s (.s .z)))) rfl (.t .z)) rfl rfl ?_
        refine lKeep (.k (.d (.d (.d (.d (.d (.d (.k (.k (.k (.k .n))))))))))) ?_
        refine lNil ?_
        exact xJoin () () (.c .z (.c (.s .z) (.c (.s (.s .z)) (.c (.s (.s (.s .z))) (.c (.s (.s (.s (.s .z)))) .n))))) (.c .z (.c .z (.c .z (.c .z (.c .z (.c .z .nil))))))
      · refine xCode ?_
        refine cCondF (.t .z) rfl ?_
        refine cSkip ?_
        refine xCode ?_
        refine cSeq ?_
        refine cRegion ?_
        refine lRd (dMove (.t (.s (.s (.s .z))))) rfl rfl ?_
        refine lCh (cBuildSlice (te := 5) (k := kB) (css := [[vB (245 : UInt8)], [vB (195 : UInt8)], [vB (17 : UInt8)], [vB (64 : UInt8)], [vB (195 : UInt8)], [vB (193 : UInt8)]]) (xs := ([(245 : UInt8), (195 : UInt8), (17 : UInt8), (64 : UInt8), (195 : UInt8), (193 : UInt8)] : List UInt8)) und_34 siz_5 zer_5 rfl (by decide) rfl (.c (.c (v' := vB 245) rfl) (.c (.c (v' := vB 195) rfl) (.c (.c (v' := vB 17) rfl) (.c (.c (v' := vB 64) rfl) (.c (.c (v' := vB 195) rfl) (.c (.c (v' := vB 193) rfl) .n)))))) rfl (fun zs h => match zs, h with | [_, _, _, _, _, _], _ => rfl) rfl (fun _ _ _ => (.cons rfl (.cons rfl (.cons rfl (.cons rfl (.cons rfl (.cons rfl .nil)))))))) rfl rfl fun b18 => ?_
        refine lSt (SX.freeze Upd.z) ?_
        refine lCall fok_8 (.c (.t (.s .z)) (.c (.t .z) .n)) (screen_Screen_Run_c K o1 ([(245 : UInt8), (195 : UInt8), (17 : UInt8), (64 : UInt8), (195 : UInt8), (193 : UInt8)] : List UInt8) x2.1.1 x2.1.2.1 x2.1.2.2 (.slice (some ⟨b18, 0, none⟩) 6 6)) (.c (.s .z) (.c (.s .z) (.c (.s .z) (.r .z .n)))) rfl rfl fun o19 x20 h21 => ?_
        refine lCh (cAlloc (cs := [vB 0, .bool false, .bool false, .int .i64 0]) zer_37 rfl) rfl rfl fun b22 => ?_
        refine lChU (uStoreA (us := [vB o19.2.f_Reply, .bool o19.2.f_Restore, .bool o19.2.f_Alarm, .int .i64 o19.2.f_Err]) (cs' := [vB o19.2.f_Reply, .bool o19.2.f_Restore, .bool o19.2.f_Alarm, .int .i64 o19.2.f_Err]) .z siz_37 rfl (by intro u hu; simp only [List.mem_cons, List.not_mem_nil, or_false] at hu; rcases hu with rfl | rfl | rfl | rfl <;> first | rfl | assumption) rfl (by simp) (.t .z) (.t (.s .z))) ?_
        refine lKeep (.k (.d (.d (.d (.d (.k (.k (.k (.k .n))))))))) ?_
        refine lNil ?_
        refine xCode ?_
        refine cSeq ?_
        refine cRegion ?_
        refine lRd (dMove (.t (.s (.s (.s .z))))) rfl rfl ?_
        refine lCall fok_9 (.c (.t .z) .n) (screen_Screen_Plane_c o19.1 x2.1.1 x20.1 x20.2) (.c (.s .z) (.c (.s .z) (.c (.s .z) .n))) rfl rfl fun o23 x24 h25 => ?_
        refine lCall fok_13 (.c (.t .z) (.c (.c rfl) .n)) (plane_Plane_At_c o19.1.f_p 3 x20.1 x20.2) (.c (.s .z) (.c (.s .z) .n)) rfl rfl fun o26 x27 h28 => ?_
        refine lCh (cAlloc (cs := [vB 0, .bool false, .bool false, vB 0, vB 0]) zer_44 rfl) rfl rfl fun b29 => ?_
        refine lChU (uStoreA (us := [vB o26.f_Byte, .bool o26.f_GE, .bool o26.f_Start, vB o26.f_Light, vB o26.f_Color]) (cs' := [vB o26.f_Byte, .bool o26.f_GE, .bool o26.f_Start, vB o26.f_Light, vB o26.f_Color]) .z siz_44 rfl (by intro u hu; simp only [List.mem_cons, List.not_mem_nil, or_false] at hu; rcases hu with rfl | rfl | rfl | rfl | rfl <;> first | rfl | assumption) rfl (by simp) (.t .z) (.t (.s .z))) ?_
        refine lKeep (.k (.d (.d (.d (.k (.k (.k (.k (.k .n))))))))) ?_
        refine lNil ?_
        refine xCode ?_
        refine cSeq ?_
        refine cRegion ?_
        refine lRd (dMove (.t (.s (.s (.s (.s .z)))))) rfl rfl ?_
        refine lCall fok_14 (.c (.t .z) .n) (screen_Screen_Clone_c o19.1 x2.1.1 x20.1 x20.2) (.c (.s (.s (.s .z))) (.c (.s .z) (.c (.s .z) .n))) rfl rfl fun o30 x31 h32 => ?_
        refine lRd (dAssign (.t .z)) rfl rfl ?_
        refine lKeep (.k (.d (.d (.k (.k (.k (.k (.k (.k .n))))))))) ?_
        refine lNil ?_
        refine xCode ?_
        refine cSeq ?_
        refine cRegion ?_
        refine lRd (dMove (.t (.s (.s (.s (.s (.s .z))))))) rfl rfl ?_
        refine lCh (cBuildSlice (te := 5) (k := kB) (css := [[vB (32 : UInt8)]]) (xs := ([(32 : UInt8)] : List UInt8)) und_34 siz_5 zer_5 rfl (by decide) rfl (.c (.c (v' := vB 32) rfl) .n) rfl (fun zs h => match zs, h with | [_], _ => rfl) rfl (fun _ _ _ => (.cons rfl .nil))) rfl rfl fun b33 => ?_
        refine lSt (SX.freeze Upd.z) ?_
        refine lCall fok_8 (.c (.t (.s .z)) (.c (.t .z) .n)) (screen_Screen_Run_c K o19.1 ([(32 : UInt8)] : List UInt8) x2.1.1 x20.1 x20.2 (.slice (some ⟨b33, 0, none⟩) 1 1)) (.c (.s .z) (.c (.s .z) (.c (.s .z) (.r .z .n)))) rfl rfl fun o34 x35 h36 => ?_
        refine lCh (cAlloc (cs := [vB 0, .bool false, .bool false, .int .i64 0]) zer_37 rfl) rfl rfl fun b37 => ?_
        refine lChU (uStoreA (us := [vB o34.2.f_Reply, .bool o34.2.f_Restore, .bool o34.2.f_Alarm, .int .i64 o34.2.f_Err]) (cs' := [vB o34.2.f_Reply, .bool o34.2.f_Restore, .bool o34.2.f_Alarm, .int .i64 o34.2.f_Err]) .z siz_37 rfl (by intro u hu; simp only [List.mem_cons, List.not_mem_nil, or_false] at hu; rcases hu with rfl | rfl | rfl | rfl <;> first | rfl | assumption) rfl (by simp) (.t .z) (.t (.s .z))) ?_
        refine lKeep (.k (.d (.d (.d (.k (.k (.k (.k (.k (.k (.k .n))))))))))) ?_
        refine lNil ?_
        refine xCode ?_
        refine cSeq ?_
        refine cRegion ?_
        refine lRd (dMove (.t (.s (.s (.s (.s (.s (.s .z)))))))) rfl rfl ?_
        refine lCh (cBuildSlice (te := 5) (k := kB) (css := [[vB (246 : UInt8)]]) (xs := ([(246 : UInt8)] : List UInt8)) und_34 siz_5 zer_5 rfl (by decide) rfl (.c (.c (v' := vB 246) rfl) .n) rfl (fun zs h => match zs, h with | [_], _ => rfl) rfl (fun _ _ _ => (.cons rfl .nil))) rfl rfl fun b38 => ?_
        refine lSt (SX.freeze Upd.z) ?_
        refine lCall fok_8 (.c (.t (.s .z)) (.c (.t .z) .n)) (screen_Screen_Run_c K o34.1 ([(246 : UInt8)] : List UInt8) x2.1.1 x35.1 x35.2 (.slice (some ⟨b38, 0, none⟩) 1 1)) (.c (.s (.s .z)) (.c (.s (.s .z)) (.c (.s (.s .z)) (.r .z .n)))) rfl rfl fun o39 x40 h41 => ?_
        refine lCh (cAlloc (cs := [vB 0, .bool false, .bool false, .int .i64 0]) zer_37 rfl) rfl rfl fun b42 => ?_
        refine lChU (uStoreA (us := [vB o39.2.f_Reply, .bool o39.2.f_Restore, .bool o39.2.f_Alarm, .int .i64 o39.2.f_Err]) (cs' := [vB o39.2.f_Reply, .bool o39.2.f_Restore, .bool o39.2.f_Alarm, .int .i64 o39.2.f_Err]) .z siz_37 rfl (by intro u hu; simp only [List.mem_cons, List.not_mem_nil, or_false] at hu; rcases hu with rfl | rfl | rfl | rfl <;> first | rfl | assumption) rfl (by simp) (.t .z) (.t (.s .z))) ?_
        refine lKeep (.k (.d (.d (.d (.k (.k (.k (.k (.k (.k (.k (.k .n)))))))))))) ?_
        refine lNil ?_
        refine xCode ?_
        refine cSeq ?_
        refine cRegion ?_
        refine lRd (dMove (.t (.s (.s (.s (.s (.s (.s (.s .z))))))))) rfl rfl ?_
        refine lCh (cBuildSlice (te := 5) (k := kB) (css := [[vB (126 : UInt8)], [vB (0 : UInt8)]]) (xs := ([(126 : UInt8), (0 : UInt8)] : List UInt8)) und_34 siz_5 zer_5 rfl (by decide) rfl (.c (.c (v' := vB 126) rfl) (.c (.c (v' := vB 0) rfl) .n)) rfl (fun zs h => match zs, h with | [_, _], _ => rfl) rfl (fun _ _ _ => (.cons rfl (.cons rfl .nil)))) rfl rfl fun b43 => ?_
        refine lSt (SX.freeze Upd.z) ?_
        refine lCallN fok_8 (.c (.t (.s .z)) (.c (.t .z) .n)) (screen_Screen_Run_c K o39.1 ([(126 : UInt8), (0 : UInt8)] : List UInt8) x2.1.1 x40.1 x40.2 (.slice (some ⟨b43, 0, none⟩) 2 2)) (.c (.s (.s .z)) (.c (.s (.s .z)) (.c (.s (.s .z)) (.r .z .n)))) rfl fun o44 x45 h46 => ?_
        refine lKeep (.d (.d (.k (.k (.k (.k (.k (.k (.k (.k (.k .n))))))))))) ?_
        refine lNil ?_
        refine xCode ?_
        refine cSeq ?_
        refine cRegion ?_
        refine lRd (dMove (.t (.s (.s (.s (.s (.s (.s (.s .z))))))))) rfl rfl ?_
        refine lCall fok_11 (.c (.t .z) .n) (screen_Screen_Other_c o44.1 x2.1.1 x45.1 x45.2) (.c .z (.c .z (.c .z .n))) rfl rfl fun o47 x48 h49 => ?_
        refine lRd (dAssign (.t .z)) rfl rfl ?_
        refine lKeep (.k (.d (.d (.k (.k (.k (.k (.k (.k (.k (.k (.k .n)))))))))))) ?_
        refine lNil ?_
        refine xCode ?_
        refine cSeq ?_
        refine cRegion ?_
        refine lRd (dMove (.t (.s (.s (.s (.s (.s (.s (.s (.s .z)))))))))) rfl rfl ?_
        refine lCallN fok_17 (.c (.t .z) .n) (screen_Screen_Clear_c o44.1 x2.1.1 x45.1 x45.2) (.c .z (.c .z (.c .z .n))) rfl fun o50 x51 h52 => ?_
        refine lKeep (.d (.k (.k (.k (.k (.k (.k (.k (.k (.k (.k .n))))))))))) ?_
        refine lNil ?_
        refine xCode ?_
        refine cSeq ?_
        refine cRegion ?_
        refine lRd (dMove (.t (.s (.s (.s (.s (.s (.s (.s .z))))))))) rfl rfl ?_
        refine lRd (dEq (.t .z) (.c rfl)) rfl rfl ?_
        refine lRd (dMove (.t .z)) rfl rfl ?_
        refine lRdG rfl .z rfl (dMove (.t (.s (.s (.s (.s (.s (.s (.s (.s (.s .z))))))))))) rfl rfl ?_
        refine lRdG rfl (.s .z) rfl (dEq (.t .z) (.c rfl)) rfl rfl ?_
        refine lRd (dPickT (.t (.s (.s .z))) rfl (.t .z)) rfl rfl ?_
        refine lRd (dMove (.t .z)) rfl rfl ?_
        refine lPass rfl .z (nbT rfl) rfl ?_
        refine lPass rfl .z (nbT rfl) rfl ?_
        refine lPass rfl .z (nbT rfl) rfl ?_
        refine lRd (dPickF (.t .z) rfl (.c rfl)) rfl rfl ?_
        refine lRd (dMove (.t .z)) rfl rfl ?_
        refine lPass rfl .z (nbT rfl) rfl ?_
        refine lPass rfl .z (nbT rfl) rfl ?_
        refine lPass rfl .z (nbT rfl) rfl ?_
        refine lRd (dPickF (.t .z) rfl (.c rfl)) rfl rfl ?_
        refine lRd (dMove (.t .z)) rfl rfl ?_
        refine lPass rfl .z (nbT rfl) rfl ?_
        refine lPass rfl .z (nbT rfl) rfl ?_
        refine lPass rfl .z (nbT rfl) rfl ?_
        refine lRd (dPickF (.t .z) rfl (.c rfl)) rfl rfl ?_
        refine lRd (dMove (.t .z)) rfl rfl ?_
        refine lPass rfl .z (nbT rfl) rfl ?_
        refine lPass rfl .z (nbT rfl) rfl ?_
        refine lPass rfl .z (nbT rfl) rfl ?_
        refine lRd (dPickF (.t .z) rfl (.c rfl)) rfl rfl ?_
        refine lRd (dMove (.t .z)) rfl rfl ?_
        refine lPass rfl .z (nbT rfl) rfl ?_
        refine lRd (dPickF (.t .z) rfl (.c rfl)) rfl rfl ?_
        refine lRd (dMove (.t .z)) rfl rfl ?_
        refine lPass rfl .z (nbT rfl) rfl ?_
        refine lPass rfl .z (nbT rfl) rfl ?_
        refine lPass rfl .z (nbT rfl) rfl ?_
        refine lRd (dPickF (.t .z) rfl (.c rfl)) rfl rfl ?_
        refine lRd (dMove (.t .z)) rfl rfl ?_
        refine lPass rfl .z (nbT rfl) rfl ?_
        refine lPass rfl .z (nbT rfl) rfl ?_
        refine lRd (dPickF (.t .z) rfl (.c rfl)) rfl rfl ?_
        refine lRd (dMove (.t .z)) rfl rfl ?_
        refine lPass rfl .z (nbT rfl) rfl ?_
        refine lPass rfl .z (nbT rfl) rfl ?_
        refine lPass rfl .z (nbT rfl) rfl ?_
        refine lPass rfl .z (nbT rfl) rfl ?_
        refine lPass rfl .z (nbT rfl) rfl ?_
        refine lRd (dPickF (.t .z) rfl (.c rfl)) rfl rfl ?_
        refine lRdK (dAssign (.t .z)) (.k (.k (.k (.k (.k (.k (.k (.k (.k (.k (.k (.k (.k (.k (.k (.k (.k (.k (.k (.k (.k (.k (.k (.k (.k (.k (.k (.k (.k (.k (.k (.d (Keep.refl _))))))))))))))))))))))))))))))))) rfl rfl ?_
        refine lKeep (.k .n) ?_
        refine lNil ?_
        refine xCode ?_
        refine cRet ?_
        refine rLeave hD ?_
        exact lvRet (rs := [.tmp 0]) rfl (.t .z .n) () rfl .nil
    · refine lRd (dMove (.t .z)) rfl rfl ?_
      refine lRd (dExtract (.t .z) rfl) rfl rfl ?_
      refine lRd (dExtract (.t (.s .z)) rfl) rfl rfl ?_
      refine lRdN (dAssign (.t (.s .z))) rfl ?_
      refine lRd (dAssign (.t .z)) rfl rfl ?_
      refine lKeep (.k (.d (.d (.d (.d (.d (.d (.k (.k (.k .n)))))))))) ?_
      refine lNil ?_
      refine xCode ?_
      refine cSeq ?_
      refine cSeq ?_
      refine cJoin (S := Unit) (X := Unit) (fun (s : Unit) (x : Unit) => [(29, .bool false), (4, .int .i64 1), (2, .int .i64 0), (1, .pointer (some ⟨x2.1.1, 0, none⟩)), (0, .bool false)]) (fun (s : Unit) (x : Unit) => [.blk x2.1.1 [.int .i64 o1.f_sizes_0.f_Rows, .int .i64 o1.f_sizes_0.f_Cols, .int .i64 o1.f_sizes_1.f_Rows, .int .i64 o1.f_sizes_1.f_Cols, .int .i64 o1.f_which, .pointer (some ⟨x2.1.2.1, 0, none⟩)] 64, .blk x2.1.2.1 [.int .i64 o1.f_p.f_size.f_Rows, .int .i64 o1.f_p.f_size.f_Cols, x2.1.2.2, .int .i64 o1.f_p.f_cursor] 66, .own x2.1.2.2 44 k_api_Cell o1.f_p.f_cells]) ?_ (fun s56 x57 => ?_)
      · refine cRegion ?_
        refine lRd (dMove (.t (.s (.s .z)))) rfl rfl ?_
        refine lRd (dPtrEqNil und_26 (.t .z) (.c rfl)) rfl rfl ?_
        refine lRd (dMove (.t .z)) rfl rfl ?_
        refine lRdG rfl .z rfl (dMove (.t (.s (.s (.s (.s (.s .z))))))) rfl rfl ?_
        refine lCallG rfl (.s .z) rfl fok_9 (.c (.t .z) .n) (screen_Screen_Plane_c o1 x2.1.1 x2.1.2.1 x2.1.2.2) (.c .z (.c .z (.c .z .n))) rfl rfl fun o53 x54 h55 => ?_
        refine lRdG rfl (.s (.s .z)) rfl (dPtrEqNil und_39 (.t .z) (.c rfl)) rfl rfl ?_
        refine lRd (dPickF (.t (.s (.s (.s .z)))) rfl (.t .z)) rfl rfl ?_
        refine lKeep (.k (.d (.d (.d (.d (.d (.d (.k (.k (.k (.k .n))))))))))) ?_
        refine lNil ?_
        exact xJoin () () (.c .z (.c (.s .z) (.c (.s (.s .z)) (.c (.s (.s (.s .z))) (.c (.s (.s (.s (.s .z)))) .n))))) (.c .z (.c .z (.c .z .nil)))
      · refine xCode ?_
        refine cCondF (.t .z) rfl ?_
        refine cSkip ?_
        refine xCode ?_
        refine cSeq ?_
        refine cRegion ?_
        refine lRd (dMove (.t (.s (.s (.s .z))))) rfl rfl ?_
        refine lCh (cBuildSlice (te := 5) (k := kB) (css := [[vB (245 : UInt8)], [vB (195 : UInt8)], [vB (17 : UInt8)], [vB (64 : UInt8)], [vB (195 : UInt8)], [vB (193 : UInt8)]]) (xs := ([(245 : UInt8), (195 : UInt8), (17 : UInt8), (64 : UInt8), (195 : UInt8), (193 : UInt8)] : List UInt8)) und_34 siz_5 zer_5 rfl (by decide) rfl (.c (.c (v' := vB 245) rfl) (.c (.c (v' := vB 195) rfl) (.c (.c (v' := vB 17) rfl) (.c (.c (v' := vB 64) rfl) (.c (.c (v' := vB 195) rfl) (.c (.c (v' := vB 193) rfl) .n)))))) rfl (fun zs h => match zs, h with | [_, _, _, _, _, _], _ => rfl) rfl (fun _ _ _ => (.cons rfl (.cons rfl (.cons rfl (.cons rfl (.cons rfl (.cons rfl .nil)))))))) rfl rfl fun b58 => ?_
        refine lSt (SX.freeze Upd.z) ?_
        refine lCall fok_8 (.c (.t (.s .z)) (.c (.t .z) .n)) (screen_Screen_Run_c K o1 ([(245 : UInt8), (195 : UInt8), (17 : UInt8), (64 : UInt8), (195 : UInt8), (193 : UInt8)] : List UInt8) x2.1.1 x2.1.2.1 x2.1.2.2 (.slice (some ⟨b58, 0, none⟩) 6 6)) (.c (.s .z) (.c (.s .z) (.c (.s .z) (.r .z .n)))) rfl rfl fun o59 x60 h61 => ?_
        refine lCh (cAlloc (cs := [vB 0, .bool false, .bool false, .int .i64 0]) zer_37 rfl) rfl rfl fun b62 => ?_
        refine lChU (uStoreA (us := [vB o59.2.f_Reply, .bool o59.2.f_Restore, .bool o59.2.f_Alarm, .int .i64 o59.2.f_Err]) (cs' := [vB o59.2.f_Reply, .bool o59.2.f_Restore, .bool o59.2.f_Alarm, .int .i64 o59.2.f_Err]) .z siz_37 rfl (by intro u hu; simp only [List.mem_cons, List.not_mem_nil, or_false] at hu; rcases hu with rfl | rfl | rfl | rfl <;> first | rfl | assumption) rfl (by simp) (.t .z) (.t (.s .z))) ?_
        refine lKeep (.k (.d (.d (.d (.d (.k (.k (.k (.k .n))))))))) ?_
        refine lNil ?_
        refine xCode ?_
        refine cSeq ?_
        refine cRegion ?_
        refine lRd (dMove (.t (.s (.s (.s .z))))) rfl rfl ?_
        refine lCall fok_9 (.c (.t .z) .n) (screen_Screen_Plane_c o59.1 x2.1.1 x60.1 x60.2) (.c (.s .z) (.c (.s .z) (.c (.s .z) .n))) rfl rfl fun o63 x64 h65 => ?_
        refine lCall fok_13 (.c (.t .z) (.c (.c rfl) .n)) (plane_Plane_At_c o59.1.f_p 3 x60.1 x60.2) (.c (.s .z) (.c (.s .z) .n)) rfl rfl fun o66 x67 h68 => ?_
        refine lCh (cAlloc (cs := [vB 0, .bool false, .bool false, vB 0, vB 0]) zer_44 rfl) rfl rfl fun b69 => ?_
        refine lChU (uStoreA (us := [vB o66.f_Byte, .bool o66.f_GE, .bool o66.f_Start, vB o66.f_Light, vB o66.f_Color]) (cs' := [vB o66.f_Byte, .bool o66.f_GE, .bool o66.f_Start, vB o66.f_Light, vB o66.f_Color]) .z siz_44 rfl (by intro u hu; simp only [List.mem_cons, List.not_mem_nil, or_false] at hu; rcases hu with rfl | rfl | rfl | rfl | rfl <;> first | rfl | assumption) rfl (by simp) (.t .z) (.t (.s .z))) ?_
        refine lKeep (.k (.d (.d (.d (.k (.k (.k (.k (.k .n))))))))) ?_
        refine lNil ?_
        refine xCode ?_
        refine cSeq ?_
        refine cRegion ?_
        refine lRd (dMove (.t (.s (.s (.s (.s .z)))))) rfl rfl ?_
        refine lCall fok_14 (.c (.t .z) .n) (screen_Screen_Clone_c o59.1 x2.1.1 x60.1 x60.2) (.c (.s (.s (.s .z))) (.c (.s .z) (.c (.s .z) .n))) rfl rfl fun o70 x71 h72 => ?_
        refine lRd (dAssign (.t .z)) rfl rfl ?_
        refine lKeep (.k (.d (.d (.k (.k (.k (.k (.k (.k .n))))))))) ?_
        refine lNil ?_
        refine xCode ?_
        refine cSeq ?_
        refine cRegion ?_
        refine lRd (dMove (.t (.s (.s (.s (.s (.s .z))))))) rfl rfl ?_
        refine lCh (cBuildSlice (te := 5) (k := kB) (css := [[vB (32 : UInt8)]]) (xs := ([(32 : UInt8)] : List UInt8)) und_34 siz_5 zer_5 rfl (by decide) rfl (.c (.c (v' := vB 32) rfl) .n) rfl (fun zs h => match zs, h with | [_], _ => rfl) rfl (fun _ _ _ => (.cons rfl .nil))) rfl rfl fun b73 => ?_
        refine lSt (SX.freeze Upd.z) ?_
        refine lCall fok_8 (.c (.t (.s .z)) (.c (.t .z) .n)) (screen_Screen_Run_c K o59.1 ([(32 : UInt8)] : List UInt8) x2.1.1 x60.1 x60.2 (.slice (some ⟨b73, 0, none⟩) 1 1)) (.c (.s .z) (.c (.s .z) (.c (.s .z) (.r .z .n)))) rfl rfl fun o74 x75 h76 => ?_
        refine lCh (cAlloc (cs := [vB 0, .bool false, .bool false, .int .i64 0]) zer_37 rfl) rfl rfl fun b77 => ?_
        refine lChU (uStoreA (us := [vB o74.2.f_Reply, .bool o74.2.f_Restore, .bool o74.2.f_Alarm, .int .i64 o74.2.f_Err]) (cs' := [vB o74.2.f_Reply, .bool o74.2.f_Restore, .bool o74.2.f_Alarm, .int .i64 o74.2.f_Err]) .z siz_37 rfl (by intro u hu; simp only [List.mem_cons, List.not_mem_nil, or_false] at hu; rcases hu with rfl | rfl | rfl | rfl <;> first | rfl | assumption) rfl (by simp) (.t .z) (.t (.s .z))) ?_
        refine lKeep (.k (.d (.d (.d (.k (.k (.k (.k (.k (.k (.k .n))))))))))) ?_
        refine lNil ?_
        refine xCode ?_
        refine cSeq ?_
        refine cRegion ?_
        refine lRd (dMove (.t (.s (.s (.s (.s (.s (.s .z)))))))) rfl rfl ?_
        refine lCh (cBuildSlice (te := 5) (k := kB) (css := [[vB (246 : UInt8)]]) (xs := ([(246 : UInt8)] : List UInt8)) und_34 siz_5 zer_5 rfl (by decide) rfl (.c (.c (v' := vB 246) rfl) .n) rfl (fun zs h => match zs, h with | [_], _ => rfl) rfl (fun _ _ _ => (.cons rfl .nil))) rfl rfl fun b78 => ?_
        refine lSt (SX.freeze Upd.z) ?_
        refine lCall fok_8 (.c (.t (.s .z)) (.c (.t .z) .n)) (screen_Screen_Run_c K o74.1 ([(246 : UInt8)] : List UInt8) x2.1.1 x75.1 x75.2 (.slice (some ⟨b78, 0, none⟩) 1 1)) (.c (.s (.s .z)) (.c (.s (.s .z)) (.c (.s (.s .z)) (.r .z .n)))) rfl rfl fun o79 x80 h81 => ?_
        refine lCh (cAlloc (cs := [vB 0, .bool false, .bool false, .int .i64 0]) zer_37 rfl) rfl rfl fun b82 => ?_
        refine lChU (uStoreA (us := [vB o79.2.f_Reply, .bool o79.2.f_Restore, .bool o79.2.f_Alarm, .int .i64 o79.2.f_Err]) (cs' := [vB o79.2.f_Reply, .bool o79.2.f_Restore, .bool o79.2.f_Alarm, .int .i64 o79.2.f_Err]) .z siz_37 rfl (by intro u hu; simp only [List.mem_cons, List.not_mem_nil, or_false] at hu; rcases hu with rfl | rfl | rfl | rfl <;> first | rfl | assumption) rfl (by simp) (.t .z) (.t (.s .z))) ?_
        refine lKeep (.k (.d (.d (.d (.k (.k (.k (.k (.k (.k (.k (.k .n)))))))))))) ?_
        refine lNil ?_
        refine xCode ?_
        refine cSeq ?_
        refine cRegion ?_
        refine lRd (dMove (.t (.s (.s (.s (.s (.s (.s (.s .z))))))))) rfl rfl ?_
        refine lCh (cBuildSlice (te := 5) (k := kB) (css := [[vB (126 : UInt8)], [vB (0 : UInt8)]]) (xs := ([(126 : UInt8), (0 : UInt8)] : List UInt8)) und_34 siz_5 zer_5 rfl (by decide) rfl (.c (.c (v' := vB 126) rfl) (.c (.c (v' := vB 0) rfl) .n)) rfl (fun zs h => match zs, h with | [_, _], _ => rfl) rfl (fun _ _ _ => (.cons rfl (.cons rfl .nil)))) rfl rfl fun b83 => ?_
        refine lSt (SX.freeze Upd.z) ?_
        refine lCallN fok_8 (.c (.t (.s .z)) (.c (.t .z) .n)) (screen_Screen_Run_c K o79.1 ([(126 : UInt8), (0 : UInt8)] : List UInt8) x2.1.1 x80.1 x80.2 (.slice (some ⟨b83, 0, none⟩) 2 2)) (.c (.s (.s .z)) (.c (.s (.s .z)) (.c (.s (.s .z)) (.r .z .n)))) rfl fun o84 x85 h86 => ?_
        refine lKeep (.d (.d (.k (.k (.k (.k (.k (.k (.k (.k (.k .n))))))))))) ?_
        refine lNil ?_
        refine xCode ?_
        refine cSeq ?_
        refine cRegion ?_
        refine lRd (dMove (.t (.s (.s (.s (.s (.s (.s (.s .z))))))))) rfl rfl ?_
        refine lCall fok_11 (.c (.t .z) .n) (screen_Screen_Other_c o84.1 x2.1.1 x85.1 x85.2) (.c .z (.c .z (.c .z .n))) rfl rfl fun o87 x88 h89 => ?_
        refine lRd (dAssign (.t .z)) rfl rfl ?_
        refine lKeep (.k (.d (.d (.k (.k (.k (.k (.k (.k (.k (.k (.k .n)))))))))))) ?_
        refine lNil ?_
        refine xCode ?_
        refine cSeq ?_
        refine cRegion ?_
        refine lRd (dMove (.t (.s (.s (.s (.s (.s (.s (.s (.s .z)))))))))) rfl rfl ?_
        refine lCallN fok_17 (.c (.t .z) .n) (screen_Screen_Clear_c o84.1 x2.1.1 x85.1 x85.2) (.c .z (.c .z (.c .z .n))) rfl fun o90 x91 h92 => ?_
        refine lKeep (.d (.k (.k (.k (.k (.k (.k (.k (.k (.k (.k .n))))))))))) ?_
        refine lNil ?_
        refine xCode ?_
        refine cSeq ?_
        refine cRegion ?_
        refine lRd (dMove (.t (.s (.s (.s (.s (.s (.s (.s .z))))))))) rfl rfl ?_
        refine lRd (dEq (.t .z) (.c rfl)) rfl rfl ?_
        refine lRd (dMove (.t .z)) rfl rfl ?_
        refine lRdG rfl .z rfl (dMove (.t (.s (.s (.s (.s (.s (.s (.s (.s (.s .z))))))))))) rfl rfl ?_
        refine lRdG rfl (.s .z) rfl (dEq (.t .z) (.c rfl)) rfl rfl ?_
        refine lRd (dPickT (.t (.s (.s .z))) rfl (.t .z)) rfl rfl ?_
        refine lRd (dMove (.t .z)) rfl rfl ?_
        refine lRdG rfl .z rfl (dLoadA (us := [vB o59.2.f_Reply, .bool o59.2.f_Restore, .bool o59.2.f_Alarm, .int .i64 o59.2.f_Err]) (.s (.s (.s (.s (.s (.s (.s (.s (.s (.s (.s (.s .z)))))))))))) agg_37 siz_37 rfl (.t (.s (.s (.s (.s (.s (.s (.s (.s (.s (.s (.s (.s .z))))))))))))) rfl) rfl rfl ?_
        refine lRdG rfl (.s .z) rfl (dBuild (cs := [vB 0, .bool true, .bool false, .int .i64 0]) zer_37 rfl plc_37 (.c (.c rfl) .n) rfl) rfl rfl ?_
        refine lRdG rfl (.s (.s .z)) rfl (dEqA eqg_37 (eqa_37 o59.2 (⟨0, true, false, 0⟩ : screen_Result)) (.t (.s .z)) (.t .z)) rfl rfl ?_
        refine lRd (dPickT (.t (.s (.s (.s .z)))) rfl (.t .z)) rfl rfl ?_
        refine lRd (dMove (.t .z)) rfl rfl ?_
        refine lCase (fun h93 => ?_) (fun h93 => ?_)
        · refine lRdG rfl .z (decide_eq_true h93) (dFld fld_44_0 (by decide) (.t (.s (.s (.s (.s (.s (.s (.s (.s (.s (.s (.s (.s (.s (.s (.s (.s .z))))))))))))))))) rfl) rfl rfl ?_
          refine lRdG rfl (.s .z) (decide_eq_true h93) (dLoad (.s (.s (.s (.s (.s (.s (.s (.s (.s (.s (.s .z))))))))))) agg_5 (.t .z) rfl) rfl rfl ?_
          refine lRdG rfl (.s (.s .z)) (decide_eq_true h93) (dEqB (.t .z) (.c (v' := vB 193) rfl)) rfl rfl ?_
          refine lRd (dPickT (.t (.s (.s (.s .z)))) (decide_eq_true h93) (.t .z)) rfl rfl ?_
          refine lRd (dMove (.t .z)) rfl rfl ?_
          refine lCase (fun h94 => ?_) (fun h94 => ?_)
          · refine lRdG rfl .z (decide_eq_true h94) (dFld fld_37_3 (by decide) (.t (.s (.s (.s (.s (.s (.s (.s (.s (.s (.s (.s (.s (.s (.s (.s (.s (.s (.s (.s .z)))))))))))))))))))) rfl) rfl rfl ?_
            refine lRdG rfl (.s .z) (decide_eq_true h94) (dLoad (.s (.s (.s (.s (.s (.s .z)))))) agg_35 (.t .z) rfl) rfl rfl ?_
            refine lRdG rfl (.s (.s .z)) (decide_eq_true h94) (dEq (.t .z) (.c rfl)) rfl rfl ?_
            refine lRd (dPickT (.t (.s (.s (.s .z)))) (decide_eq_true h94) (.t .z)) rfl rfl ?_
            refine lRd (dMove (.t .z)) rfl rfl ?_
            refine lCase (fun h95 => ?_) (fun h95 => ?_)
            · refine lRdG rfl .z (decide_eq_true h95) (dFld fld_37_0 (by decide) (.t (.s (.s (.s (.s (.s (.s (.s (.s (.s (.s (.s (.s (.s (.s (.s (.s (.s (.s (.s (.s (.s (.s (.s .z)))))))))))))))))))))))) rfl) rfl rfl ?_
              refine lRdG rfl (.s .z) (decide_eq_true h95) (dLoad (.s (.s (.s (.s .z)))) agg_5 (.t .z) rfl) rfl rfl ?_
              refine lRdG rfl (.s (.s .z)) (decide_eq_true h95) (dEqB (.t .z) (.c (v' := vB 246) rfl)) rfl rfl ?_
              refine lRd (dPickT (.t (.s (.s (.s .z)))) (decide_eq_true h95) (.t .z)) rfl rfl ?_
              refine lRd (dMove (.t .z)) rfl rfl ?_
              refine lCase (fun h96 => ?_) (fun h96 => ?_)
              · refine lRdG rfl .z (decide_eq_true h96) (dMove (.t (.s (.s (.s (.s (.s (.s (.s (.s (.s (.s (.s (.s (.s (.s (.s (.s (.s (.s (.s (.s (.s (.s (.s (.s (.s (.s (.s .z))))))))))))))))))))))))))))) rfl rfl ?_
                refine lRd (dPickT (.t (.s .z)) (decide_eq_true h96) (.t .z)) rfl rfl ?_
                refine lRd (dMove (.t .z)) rfl rfl ?_
                refine lCase (fun h97 => ?_) (fun h97 => ?_)
                · refine lRdG rfl .z h97 (dMove (.t (.s (.s (.s (.s (.s (.s (.s (.s (.s (.s (.s (.s (.s (.s (.s (.s (.s (.s (.s (.s (.s (.s (.s (.s (.s (.s (.s (.s (.s (.s (.s (.s (.s (.s (.s (.s (.s (.s .z)))))))))))))))))))))))))))))))))))))))) rfl rfl ?_
                  refine lCallG rfl (.s .z) h97 fok_11 (.c (.t .z) .n) (screen_Screen_Other_c o90 x2.1.1 x91.1 x91.2) (.c .z (.c .z (.c .z .n))) rfl rfl fun o98 x99 h100 => ?_
                  refine lRdG rfl (.s (.s .z)) h97 (dNot (.t .z)) rfl rfl ?_
                  refine lRd (dPickT (.t (.s (.s (.s .z)))) h97 (.t .z)) rfl rfl ?_
                  refine lRd (dMove (.t .z)) rfl rfl ?_
                  refine lCase (fun h101 => ?_) (fun h101 => ?_)
                  · refine lRdG rfl .z h101 (dMove (.t (.s (.s (.s (.s (.s (.s (.s (.s (.s (.s (.s (.s (.s (.s (.s (.s (.s (.s (.s (.s (.s (.s (.s (.s (.s (.s (.s (.s (.s (.s (.s (.s (.s (.s (.s (.s (.s (.s .z)))))))))))))))))))))))))))))))))))))))) rfl rfl ?_
                    refine lRdG rfl (.s .z) h101 (dPtrNeNil und_26 (.t .z) (.c rfl)) rfl rfl ?_
                    refine lRd (dPickT (.t (.s (.s .z))) h101 (.t .z)) rfl rfl ?_
                    refine lRd (dMove (.t .z)) rfl rfl ?_
                    refine lRdG rfl .z rfl (dMove (.t (.s (.s (.s (.s (.s (.s (.s (.s (.s (.s (.s (.s (.s (.s (.s (.s (.s (.s (.s (.s (.s (.s (.s (.s (.s (.s (.s (.s (.s (.s (.s (.s (.s (.s (.s (.s (.s (.s (.s (.s (.s (.s .z)))))))))))))))))))))))))))))))))))))))))))) rfl rfl ?_
                    refine lCallG rfl (.s .z) rfl fok_9 (.c (.t .z) .n) (screen_Screen_Plane_c o70 x71.1 x71.2.1 x71.2.2) (.c (.s (.s (.s (.s (.s (.s (.s (.s .z)))))))) (.c (.s (.s (.s (.s (.s (.s (.s (.s .z)))))))) (.c (.s (.s (.s (.s (.s (.s (.s (.s .z)))))))) .n))) rfl rfl fun o102 x103 h104 => ?_
                    refine lCallG rfl (.s (.s .z)) rfl fok_13 (.c (.t .z) (.c (.c rfl) .n)) (plane_Plane_At_c o70.f_p 3 x71.2.1 x71.2.2) (.c (.s .z) (.c (.s .z) .n)) rfl rfl fun o105 x106 h107 => ?_
                    refine lRdG rfl (.s (.s (.s .z))) rfl (dField (u := vB o105.f_Byte) fld_44_0 (.t .z) rfl) rfl rfl ?_
                    refine lRdG rfl (.s (.s (.s (.s .z)))) rfl (dEqB (.t .z) (.c (v' := vB 193) rfl)) rfl rfl ?_
                    refine lRd (dPickT (.t (.s (.s (.s (.s (.s .z)))))) rfl (.t .z)) rfl rfl ?_
                    refine lRdK (dAssign (.t .z)) (.k (.k (.k (.k (.k (.k (.k (.k (.k (.k (.k (.k (.k (.k (.k (.k (.k (.k (.k (.k (.k (.k (.k (.k (.k (.k (.k (.k (.k (.k (.k (.k (.k (.k (.k (.k (.k (.k (.k (.k (.k (.k (.k (.k (.k (.k (.k (.k (.k (.k (.k (.k (.k (.k (.d (Keep.refl _)))))))))))))))))))))))))))))))))))))))))))))))))))))))) rfl rfl ?_
                    refine lKeep (.k .n) ?_
                    refine lNil ?_
                    refine xCode ?_
                    refine cRet ?_
                    refine rLeave hD ?_
                    exact lvRet (rs := [.tmp 0]) rfl (.t .z .n) () rfl .nil
                  · refine lPass rfl .z (nbT (Bool.eq_false_iff.mpr h101)) rfl ?_
                    refine lPass rfl .z (nbT (Bool.eq_false_iff.mpr h101)) rfl ?_
                    refine lRd (dPickF (.t .z) (Bool.eq_false_iff.mpr h101) (.c rfl)) rfl rfl ?_
                    refine lRd (dMove (.t .z)) rfl rfl ?_
                    refine lPass rfl .z (nbT rfl) rfl ?_
                    refine lPass rfl .z (nbT rfl) rfl ?_
                    refine lPass rfl .z (nbT rfl) rfl ?_
                    refine lPass rfl .z (nbT rfl) rfl ?_
                    refine lPass rfl .z (nbT rfl) rfl ?_
                    refine lRd (dPickF (.t .z) rfl (.c rfl)) rfl rfl ?_
                    refine lRdK (dAssign (.t .z)) (.k (.k (.k (.k (.k (.k (.k (.k (.k (.k (.k (.k (.k (.k (.k (.k (.k (.k (.k (.k (.k (.k (.k (.k (.k (.k (.k (.k (.k (.k (.k (.k (.k (.k (.k (.k (.k (.k (.k (.k (.k (.k (.k (.k (.k (.k (.k (.d (Keep.refl _))))))))))))))))))))))))))))))))))))))))))))))))) rfl rfl ?_
                    refine lKeep (.k .n) ?_
                    refine lNil ?_
                    refine xCode ?_
                    refine cRet ?_
                    refine rLeave hD ?_
                    exact lvRet (rs := [.tmp 0]) rfl (.t .z .n) () rfl .nil
                · refine lPass rfl .z (nbT (Bool.eq_false_iff.mpr h97)) rfl ?_
                  refine lPass rfl .z (nbT (Bool.eq_false_iff.mpr h97)) rfl ?_
                  refine lPass rfl .z (nbT (Bool.eq_false_iff.mpr h97)) rfl ?_
                  refine lRd (dPickF (.t .z) (Bool.eq_false_iff.mpr h97) (.c rfl)) rfl rfl ?_
                  refine lRd (dMove (.t .z)) rfl rfl ?_
                  refine lPass rfl .z (nbT rfl) rfl ?_
                  refine lPass rfl .z (nbT rfl) rfl ?_
                  refine lRd (dPickF (.t .z) rfl (.c rfl)) rfl rfl ?_
                  refine lRd (dMove (.t .z)) rfl rfl ?_
                  refine lPass rfl .z (nbT rfl) rfl ?_
                  refine lPass rfl .z (nbT rfl) rfl ?_
                  refine lPass rfl .z (nbT rfl) rfl ?_
                  refine lPass rfl .z (nbT rfl) rfl ?_
                  refine lPass rfl .z (nbT rfl) rfl ?_
                  refine lRd (dPickF (.t .z) rfl (.c rfl)) rfl rfl ?_
                  refine lRdK (dAssign (.t .z)) (.k (.k (.k (.k (.k (.k (.k (.k (.k (.k (.k (.k (.k (.k (.k (.k (.k (.k (.k (.k (.k (.k (.k (.k (.k (.k (.k (.k (.k (.k (.k (.k (.k (.k (.k (.k (.k (.k (.k (.k (.k (.k (.k (.k (.d (Keep.refl _)))))))))))))))))))))))))))))))))))))))))))))) rfl rfl ?_
                  refine lKeep (.k .n) ?_
                  refine lNil ?_
                  refine xCode ?_
                  refine cRet ?_
                  refine rLeave hD ?_
                  exact lvRet (rs := [.tmp 0]) rfl (.t .z .n) () rfl .nil
              · refine lPass rfl .z (nbT (decide_eq_false h96)) rfl ?_
                refine lRd (dPickF (.t .z) (decide_eq_false h96) (.c rfl)) rfl rfl ?_
                refine lRd (dMove (.t .z)) rfl rfl ?_
                refine lPass rfl .z (nbT rfl) rfl ?_
                refine lPass rfl .z (nbT rfl) rfl ?_
                refine lPass rfl .z (nbT rfl) rfl ?_
                refine lRd (dPickF (.t .z) rfl (.c rfl)) rfl rfl ?_
                refine lRd (dMove (.t .z)) rfl rfl ?_
                refine lPass rfl .z (nbT rfl) rfl ?_
                refine lPass rfl .z (nbT rfl) rfl ?_
                refine lRd (dPickF (.t .z) rfl (.c rfl)) rfl rfl ?_
                refine lRd (dMove (.t .z)) rfl rfl ?_
                refine lPass rfl .z (nbT rfl) rfl ?_
                refine lPass rfl .z (nbT rfl) rfl ?_
                refine lPass rfl .z (nbT rfl) rfl ?_
                refine lPass rfl .z (nbT rfl) rfl ?_
                refine lPass rfl .z (nbT rfl) rfl ?_
                refine lRd (dPickF (.t .z) rfl (.c rfl)) rfl rfl ?_
                refine lRdK (dAssign (.t .z)) (.k (.k (.k (.k (.k (.k (.k (.k (.k (.k (.k (.k (.k (.k (.k (.k (.k (.k (.k (.k (.k (.k (.k (.k (.k (.k (.k (.k (.k (.k (.k (.k (.k (.k (.k (.k (.k (.k (.k (.k (.k (.k (.k (.d (Keep.refl _))))))))))))))))))))))))))))))))))))))))))))) rfl rfl ?_
                refine lKeep (.k .n) ?_
                refine lNil ?_
                refine xCode ?_
                refine cRet ?_
                refine rLeave hD ?_
                exact lvRet (rs := [.tmp 0]) rfl (.t .z .n) () rfl .nil
            · refine lPass rfl .z (nbT (decide_eq_false h95)) rfl ?_
              refine lPass rfl .z (nbT (decide_eq_false h95)) rfl ?_
              refine lPass rfl .z (nbT (decide_eq_false h95)) rfl ?_
              refine lRd (dPickF (.t .z) (decide_eq_false h95) (.c rfl)) rfl rfl ?_
              refine lRd (dMove (.t .z)) rfl rfl ?_
              refine lPass rfl .z (nbT rfl) rfl ?_
              refine lRd (dPickF (.t .z) rfl (.c rfl)) rfl rfl ?_
              refine lRd (dMove (.t .z)) rfl rfl ?_
              refine lPass rfl .z (nbT rfl) rfl ?_
              refine lPass rfl .z (nbT rfl) rfl ?_
              refine lPass rfl .z (nbT rfl) rfl ?_
              refine lRd (dPickF (.t .z) rfl (.c rfl)) rfl rfl ?_
              refine lRd (dMove (.t .z)) rfl rfl ?_
              refine lPass rfl .z (nbT rfl) rfl ?_
              refine lPass rfl .z (nbT rfl) rfl ?_
              refine lRd (dPickF (.t .z) rfl (.c rfl)) rfl rfl ?_
              refine lRd (dMove (.t .z)) rfl rfl ?_
              refine lPass rfl .z (nbT rfl) rfl ?_
              refine lPass rfl .z (nbT rfl) rfl ?_
              refine lPass rfl .z (nbT rfl) rfl ?_
              refine lPass rfl .z (nbT rfl) rfl ?_
              refine lPass rfl .z (nbT rfl) rfl ?_
              refine lRd (dPickF (.t .z) rfl (.c rfl)) rfl rfl ?_
              refine lRdK (dAssign (.t .z)) (.k (.k (.k (.k (.k (.k (.k (.k (.k (.k (.k (.k (.k (.k (.k (.k (.k (.k (.k (.k (.k (.k (.k (.k (.k (.k (.k (.k (.k (.k (.k (.k (.k (.k (.k (.k (.k (.k (.k (.k (.d (Keep.refl _)))))))))))))))))))))))))))))))))))))))))) rfl rfl ?_
              refine lKeep (.k .n) ?_
              refine lNil ?_
              refine xCode ?_
              refine cRet ?_
              refine rLeave hD ?_
              exact lvRet (rs := [.tmp 0]) rfl (.t .z .n) () rfl .nil
          · refine lPass rfl .z (nbT (decide_eq_false h94)) rfl ?_
            refine lPass rfl .z (nbT (decide_eq_false h94)) rfl ?_
            refine lPass rfl .z (nbT (decide_eq_false h94)) rfl ?_
            refine lRd (dPickF (.t .z) (decide_eq_false h94) (.c rfl)) rfl rfl ?_
            refine lRd (dMove (.t .z)) rfl rfl ?_
            refine lPass rfl .z (nbT rfl) rfl ?_
            refine lPass rfl .z (nbT rfl) rfl ?_
            refine lPass rfl .z (nbT rfl) rfl ?_
            refine lRd (dPickF (.t .z) rfl (.c rfl)) rfl rfl ?_
            refine lRd (dMove (.t .z)) rfl rfl ?_
            refine lPass rfl .z (nbT rfl) rfl ?_
            refine lRd (dPickF (.t .z) rfl (.c rfl)) rfl rfl ?_
            refine lRd (dMove (.t .z)) rfl rfl ?_
            refine lPass rfl .z (nbT rfl) rfl ?_
            refine lPass rfl .z (nbT rfl) rfl ?_
            refine lPass rfl .z (nbT rfl) rfl ?_
            refine lRd (dPickF (.t .z) rfl (.c rfl)) rfl rfl ?_
            refine lRd (dMove (.t .z)) rfl rfl ?_
            refine lPass rfl .z (nbT rfl) rfl ?_
            refine lPass rfl .z (nbT rfl) rfl ?_
            refine lRd (dPickF (.t .z) rfl (.c rfl)) rfl rfl ?_
            refine lRd (dMove (.t .z)) rfl rfl ?_
            refine lPass rfl .z (nbT rfl) rfl ?_
            refine lPass rfl .z (nbT rfl) rfl ?_
            refine lPass rfl .z (nbT rfl) rfl ?_
            refine lPass rfl .z (nbT rfl) rfl ?_
            refine lPass rfl .z (nbT rfl) rfl ?_
            refine lRd (dPickF (.t .z) rfl (.c rfl)) rfl rfl ?_
            refine lRdK (dAssign (.t .z)) (.k (.k (.k (.k (.k (.k (.k (.k (.k (.k (.k (.k (.k (.k (.k (.k (.k (.k (.k (.k (.k (.k (.k (.k (.k (.k (.k (.k (.k (.k (.k (.k (.k (.k (.k (.k (.k (.d (Keep.refl _))))))))))))))))))))))))))))))))))))))) rfl rfl ?_
            refine lKeep (.k .n) ?_
            refine lNil ?_
            refine xCode ?_
            refine cRet ?_
            refine rLeave hD ?_
            exact lvRet (rs := [.tmp 0]) rfl (.t .z .n) () rfl .nil
        · refine lPass rfl .z (nbT (decide_eq_false h93)) rfl ?_
          refine lPass rfl .z (nbT (decide_eq_false h93)) rfl ?_
          refine lPass rfl .z (nbT (decide_eq_false h93)) rfl ?_
          refine lRd (dPickF (.t .z) (decide_eq_false h93) (.c rfl)) rfl rfl ?_
          refine lRd (dMove (.t .z)) rfl rfl ?_
          refine lPass rfl .z (nbT rfl) rfl ?_
          refine lPass rfl .z (nbT rfl) rfl ?_
          refine lPass rfl .z (nbT rfl) rfl ?_
          refine lRd (dPickF (.t .z) rfl (.c rfl)) rfl rfl ?_
          refine lRd (dMove (.t .z)) rfl rfl ?_
          refine lPass rfl .z (nbT rfl) rfl ?_
          refine lPass rfl .z (nbT rfl) rfl ?_
          refine lPass rfl .z (nbT rfl) rfl ?_
          refine lRd (dPickF (.t .z) rfl (.c rfl)) rfl rfl ?_
          refine lRd (dMove (.t .z)) rfl rfl ?_
          refine lPass rfl .z (nbT rfl) rfl ?_
          refine lRd (dPickF (.t .z) rfl (.c rfl)) rfl rfl ?_
          refine lRd (dMove (.t .z)) rfl rfl ?_
          refine lPass rfl .z (nbT rfl) rfl ?_
          refine lPass rfl .z (nbT rfl) rfl ?_
          refine lPass rfl .z (nbT rfl) rfl ?_
          refine lRd (dPickF (.t .z) rfl (.c rfl)) rfl rfl ?_
          refine lRd (dMove (.t .z)) rfl rfl ?_
          refine lPass rfl .z (nbT rfl) rfl ?_
          refine lPass rfl .z (nbT rfl) rfl ?_
          refine lRd (dPickF (.t .z) rfl (.c rfl)) rfl rfl ?_
          refine lRd (dMove (.t .z)) rfl rfl ?_
          refine lPass rfl .z (nbT rfl) rfl ?_
          refine lPass rfl .z (nbT rfl) rfl ?_
          refine lPass rfl .z (nbT rfl) rfl ?_
          refine lPass rfl .z (nbT rfl) rfl ?_
          refine lPass rfl .z (nbT rfl) rfl ?_
          refine lRd (dPickF (.t .z) rfl (.c rfl)) rfl rfl ?_
          refine lRdK (dAssign (.t .z)) (.k (.k (.k (.k (.k (.k (.k (.k (.k (.k (.k (.k (.k (.k (.k (.k (.k (.k (.k (.k (.k (.k (.k (.k (.k (.k (.k (.k (.k (.k (.k (.k (.k (.k (.d (Keep.refl _)))))))))))))))))))))))))))))))))))) rfl rfl ?_
          refine lKeep (.k .n) ?_
          refine lNil ?_
          refine xCode ?_
          refine cRet ?_
          refine rLeave hD ?_
          exact lvRet (rs := [.tmp 0]) rfl (.t .z .n) () rfl .nil
  · refine lRd (dMove (.t .z)) rfl rfl ?_
    refine lRd (dExtract (.t .z) rfl) rfl rfl ?_
    refine lRd (dExtract (.t (.s .z)) rfl) rfl rfl ?_
    refine lRd (dAssign (.t (.s .z))) rfl rfl ?_
    refine lRd (dAssign (.t (.s .z))) rfl rfl ?_
    refine lKeep (.k (.k (.d (.d (.d (.d (.d (.d (.k .n))))))))) ?_
    refine lNil ?_
    refine xCode ?_
    refine cSeq ?_
    refine cRegion ?_
    refine lRd (dBuild (cs := [.int .i64 0, .int .i64 0]) zer_23 rfl plc_23 .n rfl) rfl rfl ?_
    refine lRd (dBuild (cs := [.int .i64 2, .int .i64 6]) zer_23 rfl plc_23 (.c (.c rfl) (.c (.c rfl) .n)) rfl) rfl rfl ?_
    refine lCallS fok_16 (.c (.t (.s .z)) (.c (.t .z) .n)) (screen_New_c (⟨0, 0⟩ : api_Size) (⟨2, 6⟩ : api_Size)) .n rfl rfl (fun o108 x109 h110 => ?_) (fun o111 x112 h113 => ?_)
    · refine lRd (dMove (.t .z)) rfl rfl ?_
      refine lRd (dExtract (.t .z) rfl) rfl rfl ?_
      refine lRd (dExtract (.t (.s .z)) rfl) rfl rfl ?_
      refine lRdN (dAssign (.t (.s .z))) rfl ?_
      refine lRd (dAssign (.t .z)) rfl rfl ?_
      refine lKeep (.k (.d (.d (.d (.d (.d (.d (.k (.k (.k .n)))))))))) ?_
      refine lNil ?_
      refine xCode ?_
      refine cSeq ?_
      refine cSeq ?_
      refine cJoin (S := Unit) (X := Unit) (fun (s : Unit) (x : Unit) => [(29, .bool true), (4, .int .i64 0), (2, .int .i64 1), (1, .pointer none), (0, .bool false)]) (fun (s : Unit) (x : Unit) => [.blk x109.1.1 [.int .i64 o108.f_sizes_0.f_Rows, .int .i64 o108.f_sizes_0.f_Cols, .int .i64 o108.f_sizes_1.f_Rows, .int .i64 o108.f_sizes_1.f_Cols, .int .i64 o108.f_which, .pointer (some ⟨x109.1.2.1, 0, none⟩)] 64, .blk x109.1.2.1 [.int .i64 o108.f_p.f_size.f_Rows, .int .i64 o108.f_p.f_size.f_Cols, x109.1.2.2, .int .i64 o108.f_p.f_cursor] 66, .own x109.1.2.2 44 k_api_Cell o108.f_p.f_cells]) ?_ (fun s114 x115 => ?_)
      · refine cRegion ?_
        refine lRd (dMove (.t (.s (.s .z)))) rfl rfl ?_
        refine lRd (dPtrNilEq und_26 (.t .z) (.c rfl)) rfl rfl ?_
        refine lRd (dMove (.t .z)) rfl rfl ?_
        refine lPass rfl .z (nbF rfl) rfl ?_
        refine lPass rfl .z (nbF rfl) rfl ?_
        refine lPass rfl .z (nbF rfl) rfl ?_
        refine lRd (dPickT (.t .z) rfl (.c rfl)) rfl rfl ?_
        refine lKeep (.k (.d (.d (.d (.k (.k (.k (.k .n)))))))) ?_
        refine lNil ?_
        exact xJoin () () (.c .z (.c (.s .z) (.c (.s (.s .z)) (.c (.s (.s (.s .z))) (.c (.s (.s (.s (.s .z)))) .n))))) (.c .z (.c .z (.c .z .nil)))
      · refine xCode ?_
        refine cCondT (.t .z) rfl ?_
        refine cSeq ?_
        refine cRegion ?_
        refine lRdK (dAssign (.c rfl)) (.k (.k (.k (.k (.d (Keep.refl _)))))) rfl rfl ?_
        refine lKeep (.k (.d (.k (.k (.k .n))))) ?_
        refine lNil ?_
        refine xCode ?_
        refine cRet ?_
        refine rLeave hD ?_
        exact lvRet (rs := [.tmp 0]) rfl (.t .z .n) () rfl .nil
    · refine lRd (dMove (.t .z)) rfl rfl ?_
      refine lRd (dExtract (.t .z) rfl) rfl rfl ?_
      refine lRd (dExtract (.t (.s .z)) rfl) rfl rfl ?_
      refine lRdN (dAssign (.t (.s .z))) rfl ?_
      refine lRd (dAssign (.t .z)) rfl rfl ?_
      refine lKeep (.k (.d (.d (.d (.d (.d (.d (.k (.k (.k .n)))))))))) ?_
      refine lNil ?_
      refine xCode ?_
      refine cSeq ?_
      refine cSeq ?_
      refine cJoin (S := Unit) (X := Unit) (fun (s : Unit) (x : Unit) => [(29, .bool true), (4, .int .i64 1), (2, .int .i64 1), (1, .pointer none), (0, .bool false)]) (fun (s : Unit) (x : Unit) => []) ?_ (fun s116 x117 => ?_)
      · refine cRegion ?_
        refine lRd (dMove (.t (.s (.s .z)))) rfl rfl ?_
        refine lRd (dPtrNilEq und_26 (.t .z) (.c rfl)) rfl rfl ?_
        refine lRd (dMove (.t .z)) rfl rfl ?_
        refine lPass rfl .z (nbF rfl) rfl ?_
        refine lPass rfl .z (nbF rfl) rfl ?_
        refine lPass rfl .z (nbF rfl) rfl ?_
        refine lRd (dPickT (.t .z) rfl (.c rfl)) rfl rfl ?_
        refine lKeep (.k (.d (.d (.d (.k (.k (.k (.k .n)))))))) ?_
        refine lNil ?_
        exact xJoin () () (.c .z (.c (.s .z) (.c (.s (.s .z)) (.c (.s (.s (.s .z))) (.c (.s (.s (.s (.s .z)))) .n))))) .nil
      · refine xCode ?_
        refine cCondT (.t .z) rfl ?_
        refine cSeq ?_
        refine cRegion ?_
        refine lRdK (dAssign (.c rfl)) (.k (.k (.k (.k (.d (Keep.refl _)))))) rfl rfl ?_
        refine lKeep (.k (.d (.k (.k (.k .n))))) ?_
        refine lNil ?_
        refine xCode ?_
        refine cRet ?_
        refine rLeave hD ?_
        exact lvRet (rs := [.tmp 0]) rfl (.t .z .n) () rfl .nil

-- greenscreen/greenscreenref02.Cells
def ref02_Cells_m (a0 : api_Size) : Option (Int) := ((if a0.f_Rows < 1 then some true else (if a0.f_Rows > 43 then some true else (if a0.f_Cols < 1 then some true else (if a0.f_Cols > 132 then some true else some (decide ((w64 (a0.f_Rows * a0.f_Cols)) > 4096))))))).bind fun (s6 : Bool) => (if s6 = true then some 0 else some (w64 (a0.f_Rows * a0.f_Cols)))
theorem ref02_Cells_c (a0 : api_Size) : Con Try.prog 26 #[.agg #[.int .i64 a0.f_Rows, .int .i64 a0.f_Cols]] [] (ref02_Cells_m a0) (fun (o : Int) (x : Unit) => .int .i64 o) (fun (o : Int) (x : Unit) => []) := by
  unfold ref02_Cells_m
  refine con (args := [.agg #[.int .i64 a0.f_Rows, .int .i64 a0.f_Cols]]) Try.func26 rfl 34 rfl (.c .n) rfl fun c hD hrn => ?_
  refine cSeq ?_
  refine cRegion ?_
  refine lCh (cBox (cs := [.int .i64 a0.f_Rows, .int .i64 a0.f_Cols]) (.t .z) rfl) rfl rfl fun b1 => ?_
  refine lRd (dAssign (.c rfl)) rfl rfl ?_
  refine lKeep (.k (.k .n)) ?_
  refine lNil ?_
  refine xCode ?_
  refine cSeq ?_
  refine cSeq ?_
  refine cJoin (S := Bool) (X := Unit) (fun (s : Bool) (x : Unit) => [(28, .bool s), (2, .int .i64 0), (1, .pointer (some ⟨b1, 0, none⟩))]) (fun (s : Bool) (x : Unit) => [.blk b1 [.int .i64 a0.f_Rows, .int .i64 a0.f_Cols] 23]) ?_ (fun s6 x7 => ?_)
  · refine cRegion ?_
    refine lRd (dFld fld_23_0 (by decide) (.t (.s .z)) rfl) rfl rfl ?_
    refine lRd (dLoad .z agg_3 (.t .z) rfl) rfl rfl ?_
    refine lRd (dLt (.t .z) (.c rfl)) rfl rfl ?_
    refine lRd (dMove (.t .z)) rfl rfl ?_
    refine lCase (fun h2 => ?_) (fun h2 => ?_)
    · refine lPass rfl .z (nbF (decide_eq_true h2)) rfl ?_
      refine lPass rfl .z (nbF (decide_eq_true h2)) rfl ?_
      refine lPass rfl .z (nbF (decide_eq_true h2)) rfl ?_
      refine lRd (dPickT (.t .z) (decide_eq_true h2) (.c rfl)) rfl rfl ?_
      refine lRd (dMove (.t .z)) rfl rfl ?_
      refine lPass rfl .z (nbF rfl) rfl ?_
      refine lPass rfl .z (nbF rfl) rfl ?_
      refine lPass rfl .z (nbF rfl) rfl ?_
      refine lRd (dPickT (.t .z) rfl (.c rfl)) rfl rfl ?_
      refine lRd (dMove (.t .z)) rfl rfl ?_
      refine lPass rfl .z (nbF rfl) rfl ?_
      refine lPass rfl .z (nbF rfl) rfl ?_
      refine lPass rfl .z (nbF rfl) rfl ?_
      refine lRd (dPickT (.t .z) rfl (.c rfl)) rfl rfl ?_
      refine lRd (dMove (.t .z)) rfl rfl ?_
      refine lPass rfl .z (nbF rfl) rfl ?_
      refine lPass rfl .z (nbF rfl) rfl ?_
      refine lPass rfl .z (nbF rfl) rfl ?_
      refine lPass rfl .z (nbF rfl) rfl ?_
      refine lPass rfl .z (nbF rfl) rfl ?_
      refine lPass rfl .z (nbF rfl) rfl ?_
      refine lRd (dPickT (.t .z) rfl (.c rfl)) rfl rfl ?_
      refine lKeep (.k (.d (.d (.d (.d (.d (.d (.d (.d (.d (.d (.k (.k .n))))))))))))) ?_
      refine lNil ?_
      exact xJoin true () (.c .z (.c (.s .z) (.c (.s (.s .z)) .n))) (.c .z .nil)
    · refine lRdG rfl .z (decide_eq_false h2) (dFld fld_23_0 (by decide) (.t (.s (.s (.s (.s (.s .z)))))) rfl) rfl rfl ?_
      refine lRdG rfl (.s .z) (decide_eq_false h2) (dLoad .z agg_3 (.t .z) rfl) rfl rfl ?_
      refine lRdG rfl (.s (.s .z)) (decide_eq_false h2) (dGt (.t .z) (.c rfl)) rfl rfl ?_
      refine lRd (dPickF (.t (.s (.s (.s .z)))) (decide_eq_false h2) (.t .z)) rfl rfl ?_
      refine lRd (dMove (.t .z)) rfl rfl ?_
      refine lCase (fun h3 => ?_) (fun h3 => ?_)
      · refine lPass rfl .z (nbF (decide_eq_true h3)) rfl ?_
        refine lPass rfl .z (nbF (decide_eq_true h3)) rfl ?_
        refine lPass rfl .z (nbF (decide_eq_true h3)) rfl ?_
        refine lRd (dPickT (.t .z) (decide_eq_true h3) (.c rfl)) rfl rfl ?_
        refine lRd (dMove (.t .z)) rfl rfl ?_
        refine lPass rfl .z (nbF rfl) rfl ?_
        refine lPass rfl .z (nbF rfl) rfl ?_
        refine lPass rfl .z (nbF rfl) rfl ?_
        refine lRd (dPickT (.t .z) rfl (.c rfl)) rfl rfl ?_
        refine lRd (dMove (.t .z)) rfl rfl ?_
        refine lPass rfl .z (nbF rfl) rfl ?_
        refine lPass rfl .z (nbF rfl) rfl ?_
        refine lPass rfl .z (nbF rfl) rfl ?_
        refine lPass rfl .z (nbF rfl) rfl ?_
        refine lPass rfl .z (nbF rfl) rfl ?_
        refine lPass rfl .z (nbF rfl) rfl ?_
        refine lRd (dPickT (.t .z) rfl (.c rfl)) rfl rfl ?_
        refine lKeep (.k (.d (.d (.d (.d (.d (.d (.d (.d (.d (.d (.d (.d (.d (.k (.k .n)))))))))))))))) ?_
        refine lNil ?_
        exact xJoin true () (.c .z (.c (.s .z) (.c (.s (.s .z)) .n))) (.c .z .nil)
      · refine lRdG rfl .z (decide_eq_false h3) (dFld fld_23_1 (by decide) (.t (.s (.s (.s (.s (.s (.s (.s (.s (.s (.s .z))))))))))) rfl) rfl rfl ?_
        refine lRdG rfl (.s .z) (decide_eq_false h3) (dLoad .z agg_3 (.t .z) rfl) rfl rfl ?_
        refine lRdG rfl (.s (.s .z)) (decide_eq_false h3) (dLt (.t .z) (.c rfl)) rfl rfl ?_
        refine lRd (dPickF (.t (.s (.s (.s .z)))) (decide_eq_false h3) (.t .z)) rfl rfl ?_
        refine lRd (dMove (.t .z)) rfl rfl ?_
        refine lCase (fun h4 => ?_) (fun h4 => ?_)
        · refine lPass rfl .z (nbF (decide_eq_true h4)) rfl ?_
          refine lPass rfl .z (nbF (decide_eq_true h4)) rfl ?_
          refine lPass rfl .z (nbF (decide_eq_true h4)) rfl ?_
          refine lRd (dPickT (.t .z) (decide_eq_true h4) (.c rfl)) rfl rfl ?_
          refine lRd (dMove (.t .z)) rfl rfl ?_
          refine lPass rfl .z (nbF rfl) rfl ?_
          refine lPass rfl .z (nbF rfl) rfl ?_
          refine lPass rfl .z (nbF rfl) rfl ?_
          refine lPass rfl .z (nbF rfl) rfl ?_
          refine lPass rfl .z (nbF rfl) rfl ?_
          refine lPass rfl .z (nbF rfl) rfl ?_
          refine lRd (dPickT (.t .z) rfl (.c rfl)) rfl rfl ?_
          refine lKeep (.k (.d (.d (.d (.d (.d (.d (.d (.d (.d (.d (.d (.d (.d (.d (.d (.d (.k (.k .n))))))))))))))))))) ?_
          refine lNil ?_
          exact xJoin true () (.c .z (.c (.s .z) (.c (.s (.s .z)) .n))) (.c .z .nil)
        · refine lRdG rfl .z (decide_eq_false h4) (dFld fld_23_1 (by decide) (.t (.s (.s (.s (.s (.s (.s (.s (.s (.s (.s (.s (.s (.s (.s (.s .z)))))))))))))))) rfl) rfl rfl ?_
          refine lRdG rfl (.s .z) (decide_eq_false h4) (dLoad .z agg_3 (.t .z) rfl) rfl rfl ?_
          refine lRdG rfl (.s (.s .z)) (decide_eq_false h4) (dGt (.t .z) (.c rfl)) rfl rfl ?_
          refine lRd (dPickF (.t (.s (.s (.s .z)))) (decide_eq_false h4) (.t .z)) rfl rfl ?_
          refine lRd (dMove (.t .z)) rfl rfl ?_
          refine lCase (fun h5 => ?_) (fun h5 => ?_)
          · refine lPass rfl .z (nbF (decide_eq_true h5)) rfl ?_
            refine lPass rfl .z (nbF (decide_eq_true h5)) rfl ?_
            refine lPass rfl .z (nbF (decide_eq_true h5)) rfl ?_
            refine lPass rfl .z (nbF (decide_eq_true h5)) rfl ?_
            refine lPass rfl .z (nbF (decide_eq_true h5)) rfl ?_
            refine lPass rfl .z (nbF (decide_eq_true h5)) rfl ?_
            refine lRd (dPickT (.t .z) (decide_eq_true h5) (.c rfl)) rfl rfl ?_
            refine lKeep (.k (.d (.d (.d (.d (.d (.d (.d (.d (.d (.d (.d (.d (.d (.d (.d (.d (.d (.d (.d (.k (.k .n)))))))))))))))))))))) ?_
            refine lNil ?_
            exact xJoin true () (.c .z (.c (.s .z) (.c (.s (.s .z)) .n))) (.c .z .nil)
          · refine lRdG rfl .z (decide_eq_false h5) (dFld fld_23_0 (by decide) (.t (.s (.s (.s (.s (.s (.s (.s (.s (.s (.s (.s (.s (.s (.s (.s (.s (.s (.s (.s (.s .z))))))))))))))))))))) rfl) rfl rfl ?_
            refine lRdG rfl (.s .z) (decide_eq_false h5) (dLoad .z agg_3 (.t .z) rfl) rfl rfl ?_
            refine lRdG rfl (.s (.s .z)) (decide_eq_false h5) (dFld fld_23_1 (by decide) (.t (.s (.s (.s (.s (.s (.s (.s (.s (.s (.s (.s (.s (.s (.s (.s (.s (.s (.s (.s (.s (.s (.s .z))))))))))))))))))))))) rfl) rfl rfl ?_
            refine lRdG rfl (.s (.s (.s .z))) (decide_eq_false h5) (dLoad .z agg_3 (.t .z) rfl) rfl rfl ?_
            refine lRdG rfl (.s (.s (.s (.s .z)))) (decide_eq_false h5) (dMulI (.t (.s (.s .z))) (.t .z)) rfl rfl ?_
            refine lRdG rfl (.s (.s (.s (.s (.s .z))))) (decide_eq_false h5) (dGt (.t .z) (.c rfl)) rfl rfl ?_
            refine lRd (dPickF (.t (.s (.s (.s (.s (.s (.s .z))))))) (decide_eq_false h5) (.t .z)) rfl rfl ?_
            refine lKeep (.k (.d (.d (.d (.d (.d (.d (.d (.d (.d (.d (.d (.d (.d (.d (.d (.d (.d (.d (.d (.d (.d (.d (.d (.d (.d (.k (.k .n)))))))))))))))))))))))))))) ?_
            refine lNil ?_
            exact xJoin (decide ((w64 (a0.f_Rows * a0.f_Cols)) > 4096)) () (.c .z (.c (.s .z) (.c (.s (.s .z)) .n))) (.c .z .nil)
  · refine xCode ?_
    refine cCondB (.t .z) (fun h8 => ?_) (fun h8 => ?_)
    · refine cSeq ?_
      refine cRegion ?_
      refine lRdK (dAssign (.c rfl)) (.k (.d (Keep.refl _))) rfl rfl ?_
      refine lKeep (.k (.d (.k .n))) ?_
      refine lNil ?_
      refine xCode ?_
      refine cRet ?_
      refine rLeave hD ?_
      exact lvRet (rs := [.tmp 2]) rfl (.t .z .n) () rfl .nil
    · refine cSkip ?_
      refine xCode ?_
      refine cSeq ?_
      refine cRegion ?_
      refine lRd (dFld fld_23_0 (by decide) (.t (.s (.s .z))) rfl) rfl rfl ?_
      refine lRd (dLoad .z agg_3 (.t .z) rfl) rfl rfl ?_
      refine lRd (dFld fld_23_1 (by decide) (.t (.s (.s (.s (.s .z))))) rfl) rfl rfl ?_
      refine lRd (dLoad .z agg_3 (.t .z) rfl) rfl rfl ?_
      refine lRd (dMulI (.t (.s (.s .z))) (.t .z)) rfl rfl ?_
      refine lRdK (dAssign (.t .z)) (.k (.k (.k (.k (.k (.k (.d (Keep.refl _)))))))) rfl rfl ?_
      refine lKeep (.k .n) ?_
      refine lNil ?_
      refine xCode ?_
      refine cRet ?_
      refine rLeave hD ?_
      exact lvRet (rs := [.tmp 2]) rfl (.t .z .n) () rfl .nil

-- greenscreen/greenscreenref14.New
def ref14_New_m (a0 : api_Size) : Option (ref14_Plane × Int) := (ref02_Cells_m a0).bind fun o3 => (if o3 = 0 then some ((⟨(⟨0, 0⟩ : api_Size), [], 0⟩ : ref14_Plane), 1) else (SX.mk o3 (⟨0, false, false, 0, 0⟩ : api_Cell)).bind fun zs7 => some ((⟨a0, zs7, 0⟩ : ref14_Plane), 0))
theorem ref14_New_c (a0 : api_Size) : Con Try.prog 41 #[.agg #[.int .i64 a0.f_Rows, .int .i64 a0.f_Cols]] [] (ref14_New_m a0) (fun (o : ref14_Plane × Int) (x : Value) => .tuple #[.agg #[.int .i64 o.1.f_Size.f_Rows, .int .i64 o.1.f_Size.f_Cols, x, .int .i64 o.1.f_Cursor], .int .i64 o.2]) (fun (o : ref14_Plane × Int) (x : Value) => [.ro (kSl k_api_Cell) [x] o.1.f_Cells]) := by
  unfold ref14_New_m
  refine con (args := [.agg #[.int .i64 a0.f_Rows, .int .i64 a0.f_Cols]]) Try.func41 rfl 14 rfl (.c .n) rfl fun c hD hrn => ?_
  refine cSeq ?_
  refine cRegion ?_
  refine lCh (cBox (cs := [.int .i64 a0.f_Rows, .int .i64 a0.f_Cols]) (.t .z) rfl) rfl rfl fun b1 => ?_
  refine lCh (cAlloc (cs := [.int .i64 0, .int .i64 0, .slice none 0 0, .int .i64 0]) zer_29 rfl) rfl rfl fun b2 => ?_
  refine lRd (dAssign (.c rfl)) rfl rfl ?_
  refine lKeep (.k (.k (.k .n))) ?_
  refine lNil ?_
  refine xCode ?_
  refine cSeq ?_
  refine cRegion ?_
  refine lRd (dLoadA (us := [.int .i64 a0.f_Rows, .int .i64 a0.f_Cols]) (.s .z) agg_23 siz_23 rfl (.t (.s (.s .z))) rfl) rfl rfl ?_
  refine lCall fok_26 (.c (.t .z) .n) (ref02_Cells_c a0) .n rfl rfl fun o3 x4 h5 => ?_
  refine lRd (dAssign (.t .z)) rfl rfl ?_
  refine lKeep (.k (.d (.d (.k (.k (.k .n)))))) ?_
  refine lNil ?_
  refine xCode ?_
  refine cSeq ?_
  refine cSeq ?_
  refine cRegion ?_
  refine lRd (dMove (.t .z)) rfl rfl ?_
  refine lRd (dEq (.t .z) (.c rfl)) rfl rfl ?_
  refine lKeep (.k (.d (.k (.k (.k (.k .n)))))) ?_
  refine lNil ?_
  refine xCode ?_
  refine cCond (.t .z) (fun h6 => ?_) (fun h6 => ?_)
  · refine cSeq ?_
    refine cRegion ?_
    refine lRd (dBuild (cs := [.int .i64 0, .int .i64 0, .slice none 0 0, .int .i64 0]) zer_29 rfl plc_29 .n rfl) rfl rfl ?_
    refine lChU (uStoreA (us := [.int .i64 0, .int .i64 0, .slice none 0 0, .int .i64 0]) (cs' := [.int .i64 0, .int .i64 0, .slice none 0 0, .int .i64 0]) .z siz_29 rfl (by intro u hu; simp only [List.mem_cons, List.not_mem_nil, or_false] at hu; rcases hu with rfl | rfl | rfl | rfl <;> first | rfl | assumption) rfl (by simp) (.t (.s (.s (.s (.s .z))))) (.t .z)) ?_
    refine lRdK (dAssign (.c rfl)) (.k (.k (.k (.d (Keep.refl _))))) rfl rfl ?_
    refine lKeep (.k (.d (.d (.k (.k (.k .n)))))) ?_
    refine lNil ?_
    refine xCode ?_
    refine cRet ?_
    refine rLeave hD ?_
    refine lvSt (roNil k_api_Cell) ?_
    exact lvRet (rs := [.cell 2 29, .tmp 3]) rfl (.a (.s (.s .z)) (.s .z) agg_29 siz_29 (.t .z .n)) (.slice none 0 0) rfl (.c .z .nil)
  · refine cSkip ?_
    refine xCode ?_
    refine cSeq ?_
    refine cRegionM [2, 4] [(0, .quiet), (1, .early), (2, .only), (3, .quiet), (4, .only), (5, .quiet)] mixed (by kernel_rfl) (.c (.s .z) (.c .z .nil)) (.c .n) ?_
    refine mRd rfl rfl (fun _ _ _ => dLoadA (us := [.int .i64 a0.f_Rows, .int .i64 a0.f_Cols]) .z agg_23 siz_23 rfl (.t (.s (.s (.s (.s .z))))) rfl) rfl rfl ?_
    refine mRd rfl rfl (fun _ _ _ => dMove (.t (.s (.s .z)))) rfl rfl ?_
    refine mBind fun zs7 h8 => ?_
    refine mCh rfl rfl (cMake (k := k_api_Cell) (zx := (⟨0, false, false, 0, 0⟩ : api_Cell)) und_27 inf_44 rfl (by decide) zer_44 (fun _ => rfl) (.t .z) (.t .z) h8) (fun b9 => (.c (.s .z) (.c .z (.c .z .nil)))) (fun _ => (.c .n)) rfl rfl fun b9 => ?_
    refine mSt' (SX.freeze (Upd.s Upd.z)) ?_
    refine mRd rfl rfl (fun _ _ _ => dBuild (cs := [.int .i64 a0.f_Rows, .int .i64 a0.f_Cols, .slice (some ⟨b9, 0, none⟩) (Int.toNat o3) (Int.toNat o3), .int .i64 0]) zer_29 rfl plc_29 (.c (.t (.s (.s .z))) (.c (.t .z) .n)) rfl) rfl rfl ?_
    refine mChU rfl rfl (uStoreA (us := [.int .i64 a0.f_Rows, .int .i64 a0.f_Cols, .slice (some ⟨b9, 0, none⟩) (Int.toNat o3) (Int.toNat o3), .int .i64 0]) (cs' := [.int .i64 a0.f_Rows, .int .i64 a0.f_Cols, .slice (some ⟨b9, 0, none⟩) (Int.toNat o3) (Int.toNat o3), .int .i64 0]) (.s (.s .z)) siz_29 rfl (by intro u hu; simp only [List.mem_cons, List.not_mem_nil, or_false] at hu; rcases hu with rfl | rfl | rfl | rfl <;> first | rfl | assumption) rfl (by simp) (.t (.s (.s (.s (.s (.s (.s (.s .z)))))))) (.t .z)) (.c .z (.c .z (.c .z .nil))) (.c .n) ?_
    refine mRdK rfl rfl (fun _ _ _ => dAssign (.c rfl)) (.k (.k (.k (.k (.k (.k (.d (Keep.refl _)))))))) rfl rfl ?_
    refine mKeep (.k (.d (.d (.d (.d (.d (.d (.k .n)))))))) ?_
    refine mNil ?_
    refine xCode ?_
    refine cRet ?_
    refine rLeave hD ?_
    exact lvRet (rs := [.cell 2 29, .tmp 3]) rfl (.a (.s .z) (.s (.s .z)) agg_29 siz_29 (.t .z .n)) (.slice (some ⟨b9, 0, none⟩) (Int.toNat o3) (Int.toNat o3)) rfl (.c (.s .z) .nil)

-- greenscreen/greenscreenref18.Renew
def ref18_Renew_m (a0 : ref18_Screen) (a1 : Bool) : Option (ref18_Screen) := (ref14_New_m a0.f_Plain).bind fun o3 => (if a1 = true then (ref14_New_m a0.f_More).bind fun o8 => some (⟨a0.f_Plain, a0.f_More, o8.1, a1⟩ : ref18_Screen) else some (⟨a0.f_Plain, a0.f_More, o3.1, a1⟩ : ref18_Screen))
theorem ref18_Renew_c (a0 : ref18_Screen) (a1 : Bool) (v0_0 : Value) : Con Try.prog 27 #[.agg #[.int .i64 a0.f_Plain.f_Rows, .int .i64 a0.f_Plain.f_Cols, .int .i64 a0.f_More.f_Rows, .int .i64 a0.f_More.f_Cols, .int .i64 a0.f_P.f_Size.f_Rows, .int .i64 a0.f_P.f_Size.f_Cols, v0_0, .int .i64 a0.f_P.f_Cursor, .bool a0.f_Other], .bool a1] [.ro (kSl k_api_Cell) [v0_0] a0.f_P.f_Cells] (ref18_Renew_m a0 a1) (fun (o : ref18_Screen) (x : Value) => .agg #[.int .i64 o.f_Plain.f_Rows, .int .i64 o.f_Plain.f_Cols, .int .i64 o.f_More.f_Rows, .int .i64 o.f_More.f_Cols, .int .i64 o.f_P.f_Size.f_Rows, .int .i64 o.f_P.f_Size.f_Cols, x, .int .i64 o.f_P.f_Cursor, .bool o.f_Other]) (fun (o : ref18_Screen) (x : Value) => [.ro (kSl k_api_Cell) [x] o.f_P.f_Cells]) := by
  unfold ref18_Renew_m
  refine con (args := [.agg #[.int .i64 a0.f_Plain.f_Rows, .int .i64 a0.f_Plain.f_Cols, .int .i64 a0.f_More.f_Rows, .int .i64 a0.f_More.f_Cols, .int .i64 a0.f_P.f_Size.f_Rows, .int .i64 a0.f_P.f_Size.f_Cols, v0_0, .int .i64 a0.f_P.f_Cursor, .bool a0.f_Other], .bool a1]) Try.func27 rfl 23 rfl (.c (.c .n)) rfl fun c hD hrn => ?_
  refine cSeq ?_
  refine cRegion ?_
  refine lCh (cBox (cs := [.int .i64 a0.f_Plain.f_Rows, .int .i64 a0.f_Plain.f_Cols, .int .i64 a0.f_More.f_Rows, .int .i64 a0.f_More.f_Cols, .int .i64 a0.f_P.f_Size.f_Rows, .int .i64 a0.f_P.f_Size.f_Cols, v0_0, .int .i64 a0.f_P.f_Cursor, .bool a0.f_Other]) (.t .z) rfl) rfl rfl fun b1 => ?_
  refine lCh (cAlloc (cs := [.int .i64 0, .int .i64 0, .int .i64 0, .int .i64 0, .int .i64 0, .int .i64 0, .slice none 0 0, .int .i64 0, .bool false]) zer_31 rfl) rfl rfl fun b2 => ?_
  refine lKeep (.k (.k (.d (.k .n)))) ?_
  refine lNil ?_
  refine xCode ?_
  refine cSeq ?_
  refine cRegion ?_
  refine lRd (dMove (.t (.s (.s .z)))) rfl rfl ?_
  refine lRd (dFld fld_31_3 (by decide) (.t (.s (.s .z))) rfl) rfl rfl ?_
  refine lChU (uStore (.s .z) siz_4 rfl (.s (.s (.s (.s (.s (.s (.s (.s .z)))))))) (.t .z) (.t (.s .z))) ?_
  refine lKeep (.d (.d (.k (.k (.k .n))))) ?_
  refine lNil ?_
  refine xCode ?_
  refine cSeq ?_
  refine cRegion ?_
  refine lRd (dFld fld_31_0 (by decide) (.t (.s .z)) rfl) rfl rfl ?_
  refine lRd (dLoadA (us := [.int .i64 a0.f_Plain.f_Rows, .int .i64 a0.f_Plain.f_Cols]) (.s .z) agg_23 siz_23 rfl (.t .z) rfl) rfl rfl ?_
  refine lCall fok_41 (.c (.t .z) .n) (ref14_New_c a0.f_Plain) .n rfl rfl fun o3 x4 h5 => ?_
  refine lRd (dMove (.t .z)) rfl rfl ?_
  refine lRd (dExtract (.t .z) rfl) rfl rfl ?_
  refine lRdN (dExtract (.t (.s .z)) rfl) rfl ?_
  refine lRd (dFld fld_31_2 (by decide) (.t (.s (.s (.s (.s (.s (.s .z))))))) rfl) rfl rfl ?_
  refine lFact (oneRo .z) fun h6 => ?_
  refine lChU (uStoreA (us := [.int .i64 o3.1.f_Size.f_Rows, .int .i64 o3.1.f_Size.f_Cols, x4, .int .i64 o3.1.f_Cursor]) (cs' := [.int .i64 a0.f_Plain.f_Rows, .int .i64 a0.f_Plain.f_Cols, .int .i64 a0.f_More.f_Rows, .int .i64 a0.f_More.f_Cols, .int .i64 o3.1.f_Size.f_Rows, .int .i64 o3.1.f_Size.f_Cols, x4, .int .i64 o3.1.f_Cursor, .bool a1]) (.s (.s .z)) siz_29 rfl (by intro u hu; simp only [List.mem_cons, List.not_mem_nil, or_false] at hu; rcases hu with rfl | rfl | rfl | rfl <;> first | rfl | assumption) rfl (by simp) (.t .z) (.t (.s .z))) ?_
  refine lKeep (.d (.d (.d (.d (.d (.d (.k (.k (.k .n))))))))) ?_
  refine lNil ?_
  refine xCode ?_
  refine cSeq ?_
  refine cSeq ?_
  refine cRegion ?_
  refine lRd (dMove (.t (.s (.s .z)))) rfl rfl ?_
  refine lKeep (.k (.k (.k .n))) ?_
  refine lNil ?_
  refine xCode ?_
  refine cCondB (.t .z) (fun h7 => ?_) (fun h7 => ?_)
  · refine cRegion ?_
    refine lRd (dFld fld_31_1 (by decide) (.t (.s (.s .z))) rfl) rfl rfl ?_
    refine lRd (dLoadA (us := [.int .i64 a0.f_More.f_Rows, .int .i64 a0.f_More.f_Cols]) (.s (.s .z)) agg_23 siz_23 rfl (.t .z) rfl) rfl rfl ?_
    refine lCall fok_41 (.c (.t .z) .n) (ref14_New_c a0.f_More) .n rfl rfl fun o8 x9 h10 => ?_
    refine lRd (dMove (.t .z)) rfl rfl ?_
    refine lRd (dExtract (.t .z) rfl) rfl rfl ?_
    refine lRdN (dExtract (.t (.s .z)) rfl) rfl ?_
    refine lRd (dFld fld_31_2 (by decide) (.t (.s (.s (.s (.s (.s (.s (.s .z)))))))) rfl) rfl rfl ?_
    refine lFact (oneRo .z) fun h11 => ?_
    refine lChU (uStoreA (us := [.int .i64 o8.1.f_Size.f_Rows, .int .i64 o8.1.f_Size.f_Cols, x9, .int .i64 o8.1.f_Cursor]) (cs' := [.int .i64 a0.f_Plain.f_Rows, .int .i64 a0.f_Plain.f_Cols, .int .i64 a0.f_More.f_Rows, .int .i64 a0.f_More.f_Cols, .int .i64 o8.1.f_Size.f_Rows, .int .i64 o8.1.f_Size.f_Cols, x9, .int .i64 o8.1.f_Cursor, .bool a1]) (.s (.s (.s .z))) siz_29 rfl (by intro u hu; simp only [List.mem_cons, List.not_mem_nil, or_false] at hu; rcases hu with rfl | rfl | rfl | rfl <;> first | rfl | assumption) rfl (by simp) (.t .z) (.t (.s .z))) ?_
    refine lKeep (.d (.d (.d (.d (.d (.d (.d (.k (.k .n))))))))) ?_
    refine lNil ?_
    refine xCode ?_
    refine cSeq ?_
    refine cRegion ?_
    refine lRd (dLoadA (us := [.int .i64 a0.f_Plain.f_Rows, .int .i64 a0.f_Plain.f_Cols, .int .i64 a0.f_More.f_Rows, .int .i64 a0.f_More.f_Cols, .int .i64 o8.1.f_Size.f_Rows, .int .i64 o8.1.f_Size.f_Cols, x9, .int .i64 o8.1.f_Cursor, .bool a1]) (.s (.s (.s .z))) agg_31 siz_31 rfl (.t (.s .z)) rfl) rfl rfl ?_
    refine lFact (oneRo .z) fun h12 => ?_
    refine lChU (uStoreA (us := [.int .i64 a0.f_Plain.f_Rows, .int .i64 a0.f_Plain.f_Cols, .int .i64 a0.f_More.f_Rows, .int .i64 a0.f_More.f_Cols, .int .i64 o8.1.f_Size.f_Rows, .int .i64 o8.1.f_Size.f_Cols, x9, .int .i64 o8.1.f_Cursor, .bool a1]) (cs' := [.int .i64 a0.f_Plain.f_Rows, .int .i64 a0.f_Plain.f_Cols, .int .i64 a0.f_More.f_Rows, .int .i64 a0.f_More.f_Cols, .int .i64 o8.1.f_Size.f_Rows, .int .i64 o8.1.f_Size.f_Cols, x9, .int .i64 o8.1.f_Cursor, .bool a1]) (.s (.s .z)) siz_31 rfl (by intro u hu; simp only [List.mem_cons, List.not_mem_nil, or_false] at hu; rcases hu with rfl | rfl | rfl | rfl | rfl | rfl | rfl | rfl | rfl <;> first | rfl | assumption) rfl (by simp) (.t (.s .z)) (.t .z)) ?_
    refine lKeep (.d (.k .n)) ?_
    refine lNil ?_
    refine xCode ?_
    refine cRet ?_
    refine rLeave hD ?_
    exact lvRet (rs := [.cell 4 31]) rfl (.a .z (.s (.s .z)) agg_31 siz_31 .n) x9 rfl (.c .z .nil)
  · refine cSkip ?_
    refine xCode ?_
    refine cSeq ?_
    refine cRegion ?_
    refine lRd (dLoadA (us := [.int .i64 a0.f_Plain.f_Rows, .int .i64 a0.f_Plain.f_Cols, .int .i64 a0.f_More.f_Rows, .int .i64 a0.f_More.f_Cols, .int .i64 o3.1.f_Size.f_Rows, .int .i64 o3.1.f_Size.f_Cols, x4, .int .i64 o3.1.f_Cursor, .bool a1]) (.s (.s .z)) agg_31 siz_31 rfl (.t (.s (.s .z))) rfl) rfl rfl ?_
    refine lFact (oneRo .z) fun h13 => ?_
    refine lChU (uStoreA (us := [.int .i64 a0.f_Plain.f_Rows, .int .i64 a0.f_Plain.f_Cols, .int .i64 a0.f_More.f_Rows, .int .i64 a0.f_More.f_Cols, .int .i64 o3.1.f_Size.f_Rows, .int .i64 o3.1.f_Size.f_Cols, x4, .int .i64 o3.1.f_Cursor, .bool a1]) (cs' := [.int .i64 a0.f_Plain.f_Rows, .int .i64 a0.f_Plain.f_Cols, .int .i64 a0.f_More.f_Rows, .int .i64 a0.f_More.f_Cols, .int .i64 o3.1.f_Size.f_Rows, .int .i64 o3.1.f_Size.f_Cols, x4, .int .i64 o3.1.f_Cursor, .bool a1]) (.s .z) siz_31 rfl (by intro u hu; simp only [List.mem_cons, List.not_mem_nil, or_false] at hu; rcases hu with rfl | rfl | rfl | rfl | rfl | rfl | rfl | rfl | rfl <;> first | rfl | assumption) rfl (by simp) (.t (.s (.s .z))) (.t .z)) ?_
    refine lKeep (.d (.d (.k .n))) ?_
    refine lNil ?_
    refine xCode ?_
    refine cRet ?_
    refine rLeave hD ?_
    exact lvRet (rs := [.cell 4 31]) rfl (.a .z (.s .z) agg_31 siz_31 .n) x4 rfl (.c .z .nil)

-- greenscreen/greenscreenref18.New
def ref18_New_m (a0 : api_Size) (a1 : api_Size) : Option (ref18_Screen × Int) := ((ref02_Cells_m a0).bind fun o4 => (if o4 = 0 then some true else (ref02_Cells_m a1).bind fun o8 => some (decide (o8 = 0)))).bind fun (s11 : Bool) => (if s11 = true then some ((⟨(⟨0, 0⟩ : api_Size), (⟨0, 0⟩ : api_Size), (⟨(⟨0, 0⟩ : api_Size), [], 0⟩ : ref14_Plane), false⟩ : ref18_Screen), 1) else (ref18_Renew_m (⟨a0, a1, (⟨(⟨0, 0⟩ : api_Size), [], 0⟩ : ref14_Plane), false⟩ : ref18_Screen) false).bind fun o14 => some (o14, 0))
theorem ref18_New_c (a0 : api_Size) (a1 : api_Size) : Con Try.prog 18 #[.agg #[.int .i64 a0.f_Rows, .int .i64 a0.f_Cols], .agg #[.int .i64 a1.f_Rows, .int .i64 a1.f_Cols]] [] (ref18_New_m a0 a1) (fun (o : ref18_Screen × Int) (x : Value) => .tuple #[.agg #[.int .i64 o.1.f_Plain.f_Rows, .int .i64 o.1.f_Plain.f_Cols, .int .i64 o.1.f_More.f_Rows, .int .i64 o.1.f_More.f_Cols, .int .i64 o.1.f_P.f_Size.f_Rows, .int .i64 o.1.f_P.f_Size.f_Cols, x, .int .i64 o.1.f_P.f_Cursor, .bool o.1.f_Other], .int .i64 o.2]) (fun (o : ref18_Screen × Int) (x : Value) => [.ro (kSl k_api_Cell) [x] o.1.f_P.f_Cells]) := by
  unfold ref18_New_m
  refine con (args := [.agg #[.int .i64 a0.f_Rows, .int .i64 a0.f_Cols], .agg #[.int .i64 a1.f_Rows, .int .i64 a1.f_Cols]]) Try.func18 rfl 19 rfl (.c (.c .n)) rfl fun c hD hrn => ?_
  refine cSeq ?_
  refine cRegion ?_
  refine lCh (cBox (cs := [.int .i64 a0.f_Rows, .int .i64 a0.f_Cols]) (.t .z) rfl) rfl rfl fun b1 => ?_
  refine lCh (cBox (cs := [.int .i64 a1.f_Rows, .int .i64 a1.f_Cols]) (.t (.s (.s .z))) rfl) rfl rfl fun b2 => ?_
  refine lCh (cAlloc (cs := [.int .i64 0, .int .i64 0, .int .i64 0, .int .i64 0, .int .i64 0, .int .i64 0, .slice none 0 0, .int .i64 0, .bool false]) zer_31 rfl) rfl rfl fun b3 => ?_
  refine lRd (dAssign (.c rfl)) rfl rfl ?_
  refine lKeep (.k (.k (.k (.k .n)))) ?_
  refine lNil ?_
  refine xCode ?_
  refine cSeq ?_
  refine cSeq ?_
  refine cJoin (S := Bool) (X := Unit) (fun (s : Bool) (x : Unit) => [(13, .bool s), (5, .int .i64 0), (4, .pointer (some ⟨b3, 0, none⟩)), (3, .pointer (some ⟨b2, 0, none⟩)), (2, .pointer (some ⟨b1, 0, none⟩))]) (fun (s : Bool) (x : Unit) => [.blk b3 [.int .i64 0, .int .i64 0, .int .i64 0, .int .i64 0, .int .i64 0, .int .i64 0, .slice none 0 0, .int .i64 0, .bool false] 31, .blk b2 [.int .i64 a1.f_Rows, .int .i64 a1.f_Cols] 23, .blk b1 [.int .i64 a0.f_Rows, .int .i64 a0.f_Cols] 23]) ?_ (fun s11 x12 => ?_)
  · refine cRegion ?_
    refine lRd (dLoadA (us := [.int .i64 a0.f_Rows, .int .i64 a0.f_Cols]) (.s (.s .z)) agg_23 siz_23 rfl (.t (.s (.s (.s .z)))) rfl) rfl rfl ?_
    refine lCall fok_26 (.c (.t .z) .n) (ref02_Cells_c a0) .n rfl rfl fun o4 x5 h6 => ?_
    refine lRd (dEq (.t .z) (.c rfl)) rfl rfl ?_
    refine lRd (dMove (.t .z)) rfl rfl ?_
    refine lCase (fun h7 => ?_) (fun h7 => ?_)
    · refine lPass rfl .z (nbF (decide_eq_true h7)) rfl ?_
      refine lPass rfl .z (nbF (decide_eq_true h7)) rfl ?_
      refine lPass rfl .z (nbF (decide_eq_true h7)) rfl ?_
      refine lRd (dPickT (.t .z) (decide_eq_true h7) (.c rfl)) rfl rfl ?_
      refine lKeep (.k (.d (.d (.d (.d (.k (.k (.k (.k .n))))))))) ?_
      refine lNil ?_
      exact xJoin true () (.c .z (.c (.s .z) (.c (.s (.s .z)) (.c (.s (.s (.s .z))) (.c (.s (.s (.s (.s .z)))) .n))))) (.c .z (.c .z (.c .z .nil)))
    · refine lRdG rfl .z (decide_eq_false h7) (dLoadA (us := [.int .i64 a1.f_Rows, .int .i64 a1.f_Cols]) (.s .z) agg_23 siz_23 rfl (.t (.s (.s (.s (.s (.s (.s .z))))))) rfl) rfl rfl ?_
      refine lCallG rfl (.s .z) (decide_eq_false h7) fok_26 (.c (.t .z) .n) (ref02_Cells_c a1) .n rfl rfl fun o8 x9 h10 => ?_
      refine lRdG rfl (.s (.s .z)) (decide_eq_false h7) (dEq (.t .z) (.c rfl)) rfl rfl ?_
      refine lRd (dPickF (.t (.s (.s (.s .z)))) (decide_eq_false h7) (.t .z)) rfl rfl ?_
      refine lKeep (.k (.d (.d (.d (.d (.d (.d (.d (.k (.k (.k (.k .n)))))))))))) ?_
      refine lNil ?_
      exact xJoin (decide (o8 = 0)) () (.c .z (.c (.s .z) (.c (.s (.s .z)) (.c (.s (.s (.s .z))) (.c (.s (.s (.s (.s .z)))) .n))))) (.c .z (.c .z (.c .z .nil)))
  · refine xCode ?_
    refine cCondB (.t .z) (fun h13 => ?_) (fun h13 => ?_)
    · refine cSeq ?_
      refine cRegion ?_
      refine lRd (dBuild (cs := [.int .i64 0, .int .i64 0, .int .i64 0, .int .i64 0, .int .i64 0, .int .i64 0, .slice none 0 0, .int .i64 0, .bool false]) zer_31 rfl plc_31 .n rfl) rfl rfl ?_
      refine lChU (uStoreA (us := [.int .i64 0, .int .i64 0, .int .i64 0, .int .i64 0, .int .i64 0, .int .i64 0, .slice none 0 0, .int .i64 0, .bool false]) (cs' := [.int .i64 0, .int .i64 0, .int .i64 0, .int .i64 0, .int .i64 0, .int .i64 0, .slice none 0 0, .int .i64 0, .bool false]) .z siz_31 rfl (by intro u hu; simp only [List.mem_cons, List.not_mem_nil, or_false] at hu; rcases hu with rfl | rfl | rfl | rfl | rfl | rfl | rfl | rfl | rfl <;> first | rfl | assumption) rfl (by simp) (.t (.s (.s (.s .z)))) (.t .z)) ?_
      refine lRdK (dAssign (.c rfl)) (.k (.k (.d (Keep.refl _)))) rfl rfl ?_
      refine lKeep (.k (.d (.d (.k (.k (.k .n)))))) ?_
      refine lNil ?_
      refine xCode ?_
      refine cRet ?_
      refine rLeave hD ?_
      refine lvSt (roNil k_api_Cell) ?_
      exact lvRet (rs := [.cell 4 31, .tmp 5]) rfl (.a (.s .z) (.s .z) agg_31 siz_31 (.t .z .n)) (.slice none 0 0) rfl (.c .z .nil)
    · refine cSkip ?_
      refine xCode ?_
      refine cSeq ?_
      refine cRegion ?_
      refine lRd (dLoadA (us := [.int .i64 a0.f_Rows, .int .i64 a0.f_Cols]) (.s (.s .z)) agg_23 siz_23 rfl (.t (.s (.s (.s (.s .z))))) rfl) rfl rfl ?_
      refine lRd (dLoadA (us := [.int .i64 a1.f_Rows, .int .i64 a1.f_Cols]) (.s .z) agg_23 siz_23 rfl (.t (.s (.s (.s (.s .z))))) rfl) rfl rfl ?_
      refine lRd (dBuild (cs := [.int .i64 a0.f_Rows, .int .i64 a0.f_Cols, .int .i64 a1.f_Rows, .int .i64 a1.f_Cols, .int .i64 0, .int .i64 0, .slice none 0 0, .int .i64 0, .bool false]) zer_31 rfl plc_31 (.c (.t (.s .z)) (.c (.t .z) .n)) rfl) rfl rfl ?_
      refine lSt (roNil k_api_Cell) ?_
      refine lCall fok_27 (.c (.t .z) (.c (.c rfl) .n)) (ref18_Renew_c (⟨a0, a1, (⟨(⟨0, 0⟩ : api_Size), [], 0⟩ : ref14_Plane), false⟩ : ref18_Screen) false (.slice none 0 0)) (.r .z .n) rfl rfl fun o14 x15 h16 => ?_
      refine lFact (oneRo .z) fun h17 => ?_
      refine lChU (uStoreA (us := [.int .i64 o14.f_Plain.f_Rows, .int .i64 o14.f_Plain.f_Cols, .int .i64 o14.f_More.f_Rows, .int .i64 o14.f_More.f_Cols, .int .i64 o14.f_P.f_Size.f_Rows, .int .i64 o14.f_P.f_Size.f_Cols, x15, .int .i64 o14.f_P.f_Cursor, .bool o14.f_Other]) (cs' := [.int .i64 o14.f_Plain.f_Rows, .int .i64 o14.f_Plain.f_Cols, .int .i64 o14.f_More.f_Rows, .int .i64 o14.f_More.f_Cols, .int .i64 o14.f_P.f_Size.f_Rows, .int .i64 o14.f_P.f_Size.f_Cols, x15, .int .i64 o14.f_P.f_Cursor, .bool o14.f_Other]) (.s (.s .z)) siz_31 rfl (by intro u hu; simp only [List.mem_cons, List.not_mem_nil, or_false] at hu; rcases hu with rfl | rfl | rfl | rfl | rfl | rfl | rfl | rfl | rfl <;> first | rfl | assumption) rfl (by simp) (.t (.s (.s (.s (.s (.s (.s .z))))))) (.t .z)) ?_
      refine lRdK (dAssign (.c rfl)) (.k (.k (.k (.k (.k (.d (Keep.refl _))))))) rfl rfl ?_
      refine lKeep (.k (.d (.d (.d (.d (.d (.k .n))))))) ?_
      refine lNil ?_
      refine xCode ?_
      refine cRet ?_
      refine rLeave hD ?_
      exact lvRet (rs := [.cell 4 31, .tmp 5]) rfl (.a (.s .z) (.s (.s .z)) agg_31 siz_31 (.t .z .n)) x15 rfl (.c .z .nil)

-- greenscreen/greenscreenlaw18.made
def law18_made_m (a0 : api_Size) (a1 : api_Size) : Option (Sum (screen_Screen × ref18_Screen) (ref18_Screen × Bool)) := (ref18_New_m a0 a1).bind fun o4 => ((if o4.2 ≠ 0 then some true else (if (w64 (a0.f_Rows * a0.f_Cols)) > 60 then some true else some (decide ((w64 (a1.f_Rows * a1.f_Cols)) > 60))))).bind fun (s11 : Bool) => (if s11 = true then some (Sum.inr (o4.1, false)) else (screen_New_m a0 a1).bind (onE (fun (o15 : screen_Screen) => some (Sum.inl (o15, o4.1))) (fun (o18 : Unit) => some (Sum.inr (o4.1, true)))))
theorem law18_made_c (a0 : api_Size) (a1 : api_Size) : Con Try.prog 7 #[.agg #[.int .i64 a0.f_Rows, .int .i64 a0.f_Cols], .agg #[.int .i64 a1.f_Rows, .int .i64 a1.f_Cols]] [] (law18_made_m a0 a1) (resS (fun (o : screen_Screen × ref18_Screen) (x : (Nat × Nat × Value × Value) × (Value)) => .tuple #[.pointer (some ⟨x.1.1, 0, none⟩), .agg #[.int .i64 o.2.f_Plain.f_Rows, .int .i64 o.2.f_Plain.f_Cols, .int .i64 o.2.f_More.f_Rows, .int .i64 o.2.f_More.f_Cols, .int .i64 o.2.f_P.f_Size.f_Rows, .int .i64 o.2.f_P.f_Size.f_Cols, x.1.2.2.2, .int .i64 o.2.f_P.f_Cursor, .bool o.2.f_Other], .bool true]) (fun (e : ref18_Screen × Bool) (x : (Nat × Nat × Value × Value) × (Value)) => .tuple #[.pointer none, .agg #[.int .i64 e.1.f_Plain.f_Rows, .int .i64 e.1.f_Plain.f_Cols, .int .i64 e.1.f_More.f_Rows, .int .i64 e.1.f_More.f_Cols, .int .i64 e.1.f_P.f_Size.f_Rows, .int .i64 e.1.f_P.f_Size.f_Cols, x.2, .int .i64 e.1.f_P.f_Cursor, .bool e.1.f_Other], .bool e.2])) (loE (fun (o : screen_Screen × ref18_Screen) (x : (Nat × Nat × Value × Value) × (Value)) => [.blk x.1.1 [.int .i64 o.1.f_sizes_0.f_Rows, .int .i64 o.1.f_sizes_0.f_Cols, .int .i64 o.1.f_sizes_1.f_Rows, .int .i64 o.1.f_sizes_1.f_Cols, .int .i64 o.1.f_which, .pointer (some ⟨x.1.2.1, 0, none⟩)] 64, .blk x.1.2.1 [.int .i64 o.1.f_p.f_size.f_Rows, .int .i64 o.1.f_p.f_size.f_Cols, x.1.2.2.1, .int .i64 o.1.f_p.f_cursor] 66, .own x.1.2.2.1 44 k_api_Cell o.1.f_p.f_cells, .ro (kSl k_api_Cell) [x.1.2.2.2] o.2.f_P.f_Cells]) (fun (e : ref18_Screen × Bool) (x : (Nat × Nat × Value × Value) × (Value)) => [.ro (kSl k_api_Cell) [x.2] e.1.f_P.f_Cells])) := by
  unfold law18_made_m
  refine con (args := [.agg #[.int .i64 a0.f_Rows, .int .i64 a0.f_Cols], .agg #[.int .i64 a1.f_Rows, .int .i64 a1.f_Cols]]) Try.func7 rfl 44 rfl (.c (.c .n)) rfl fun c hD hrn => ?_
  refine cSeq ?_
  refine cRegion ?_
  refine lCh (cBox (cs := [.int .i64 a0.f_Rows, .int .i64 a0.f_Cols]) (.t .z) rfl) rfl rfl fun b1 => ?_
  refine lCh (cBox (cs := [.int .i64 a1.f_Rows, .int .i64 a1.f_Cols]) (.t (.s (.s .z))) rfl) rfl rfl fun b2 => ?_
  refine lRd (dAssign (.c rfl)) rfl rfl ?_
  refine lCh (cAlloc (cs := [.int .i64 0, .int .i64 0, .int .i64 0, .int .i64 0, .int .i64 0, .int .i64 0, .slice none 0 0, .int .i64 0, .bool false]) zer_31 rfl) rfl rfl fun b3 => ?_
  refine lRd (dAssign (.c rfl)) rfl rfl ?_
  refine lKeep (.k (.k (.k (.k (.k .n))))) ?_
  refine lNil ?_
  refine xCode ?_
  refine cSeq ?_
  refine cRegion ?_
  refine lRd (dLoadA (us := [.int .i64 a0.f_Rows, .int .i64 a0.f_Cols]) (.s (.s .z)) agg_23 siz_23 rfl (.t (.s (.s (.s (.s .z))))) rfl) rfl rfl ?_
  refine lRd (dLoadA (us := [.int .i64 a1.f_Rows, .int .i64 a1.f_Cols]) (.s .z) agg_23 siz_23 rfl (.t (.s (.s (.s (.s .z))))) rfl) rfl rfl ?_
  refine lCall fok_18 (.c (.t (.s .z)) (.c (.t .z) .n)) (ref18_New_c a0 a1) .n rfl rfl fun o4 x5 h6 => ?_
  refine lRd (dMove (.t .z)) rfl rfl ?_
  refine lRd (dExtract (.t .z) rfl) rfl rfl ?_
  refine lRd (dExtract (.t (.s .z)) rfl) rfl rfl ?_
  refine lCh (cAlloc (cs := [.int .i64 0, .int .i64 0, .int .i64 0, .int .i64 0, .int .i64 0, .int .i64 0, .slice none 0 0, .int .i64 0, .bool false]) zer_31 rfl) rfl rfl fun b7 => ?_
  refine lFact (oneRo (.s .z)) fun h8 => ?_
  refine lChU (uStoreA (us := [.int .i64 o4.1.f_Plain.f_Rows, .int .i64 o4.1.f_Plain.f_Cols, .int .i64 o4.1.f_More.f_Rows, .int .i64 o4.1.f_More.f_Cols, .int .i64 o4.1.f_P.f_Size.f_Rows, .int .i64 o4.1.f_P.f_Size.f_Cols, x5, .int .i64 o4.1.f_P.f_Cursor, .bool o4.1.f_Other]) (cs' := [.int .i64 o4.1.f_Plain.f_Rows, .int .i64 o4.1.f_Plain.f_Cols, .int .i64 o4.1.f_More.f_Rows, .int .i64 o4.1.f_More.f_Cols, .int .i64 o4.1.f_P.f_Size.f_Rows, .int .i64 o4.1.f_P.f_Size.f_Cols, x5, .int .i64 o4.1.f_P.f_Cursor, .bool o4.1.f_Other]) .z siz_31 rfl (by intro u hu; simp only [List.mem_cons, List.not_mem_nil, or_false] at hu; rcases hu with rfl | rfl | rfl | rfl | rfl | rfl | rfl | rfl | rfl <;> first | rfl | assumption) rfl (by simp) (.t .z) (.t (.s (.s .z)))) ?_
  refine lRd (dAssign (.t (.s .z))) rfl rfl ?_
  refine lKeep (.k (.k (.d (.d (.d (.d (.d (.d (.k (.k (.k (.k (.k .n))))))))))))) ?_
  refine lNil ?_
  refine xCode ?_
  refine cSeq ?_
  refine cSeq ?_
  refine cJoin (S := Bool) (X := Unit) (fun (s : Bool) (x : Unit) => [(34, .bool s), (7, .pointer (some ⟨b7, 0, none⟩)), (6, .bool false), (5, .pointer (some ⟨b3, 0, none⟩)), (4, .pointer none), (3, .pointer (some ⟨b2, 0, none⟩)), (2, .pointer (some ⟨b1, 0, none⟩))]) (fun (s : Bool) (x : Unit) => [.blk b7 [.int .i64 o4.1.f_Plain.f_Rows, .int .i64 o4.1.f_Plain.f_Cols, .int .i64 o4.1.f_More.f_Rows, .int .i64 o4.1.f_More.f_Cols, .int .i64 o4.1.f_P.f_Size.f_Rows, .int .i64 o4.1.f_P.f_Size.f_Cols, x5, .int .i64 o4.1.f_P.f_Cursor, .bool o4.1.f_Other] 31, .ro (kSl k_api_Cell) [x5] o4.1.f_P.f_Cells, .blk b3 [.int .i64 0, .int .i64 0, .int .i64 0, .int .i64 0, .int .i64 0, .int .i64 0, .slice none 0 0, .int .i64 0, .bool false] 31, .blk b2 [.int .i64 a1.f_Rows, .int .i64 a1.f_Cols] 23, .blk b1 [.int .i64 a0.f_Rows, .int .i64 a0.f_Cols] 23]) ?_ (fun s11 x12 => ?_)
  · refine cRegion ?_
    refine lRd (dMove (.t .z)) rfl rfl ?_
    refine lRd (dNe (.t .z) (.c rfl)) rfl rfl ?_
    refine lRd (dMove (.t .z)) rfl rfl ?_
    refine lCase (fun h9 => ?_) (fun h9 => ?_)
    · refine lPass rfl .z (nbF (decide_eq_true h9)) rfl ?_
      refine lPass rfl .z (nbF (decide_eq_true h9)) rfl ?_
      refine lPass rfl .z (nbF (decide_eq_true h9)) rfl ?_
      refine lPass rfl .z (nbF (decide_eq_true h9)) rfl ?_
      refine lPass rfl .z (nbF (decide_eq_true h9)) rfl ?_
      refine lPass rfl .z (nbF (decide_eq_true h9)) rfl ?_
      refine lRd (dPickT (.t .z) (decide_eq_true h9) (.c rfl)) rfl rfl ?_
      refine lRd (dMove (.t .z)) rfl rfl ?_
      refine lPass rfl .z (nbF rfl) rfl ?_
      refine lPass rfl .z (nbF rfl) rfl ?_
      refine lPass rfl .z (nbF rfl) rfl ?_
      refine lPass rfl .z (nbF rfl) rfl ?_
      refine lPass rfl .z (nbF rfl) rfl ?_
      refine lPass rfl .z (nbF rfl) rfl ?_
      refine lRd (dPickT (.t .z) rfl (.c rfl)) rfl rfl ?_
      refine lKeep (.k (.d (.d (.d (.d (.d (.d (.k (.k (.k (.k (.k (.k .n))))))))))))) ?_
      refine lNil ?_
      exact xJoin true () (.c .z (.c (.s .z) (.c (.s (.s .z)) (.c (.s (.s (.s .z))) (.c (.s (.s (.s (.s .z)))) (.c (.s (.s (.s (.s (.s .z))))) (.c (.s (.s (.s (.s (.s (.s .z)))))) .n))))))) (.c .z (.c .z (.c .z (.c .z (.c .z .nil)))))
    · refine lRdG rfl .z (decide_eq_false h9) (dFld fld_23_0 (by decide) (.t (.s (.s (.s (.s (.s (.s (.s (.s (.s .z)))))))))) rfl) rfl rfl ?_
      refine lRdG rfl (.s .z) (decide_eq_false h9) (dLoad (.s (.s (.s (.s .z)))) agg_3 (.t .z) rfl) rfl rfl ?_
      refine lRdG rfl (.s (.s .z)) (decide_eq_false h9) (dFld fld_23_1 (by decide) (.t (.s (.s (.s (.s (.s (.s (.s (.s (.s (.s (.s .z)))))))))))) rfl) rfl rfl ?_
      refine lRdG rfl (.s (.s (.s .z))) (decide_eq_false h9) (dLoad (.s (.s (.s (.s .z)))) agg_3 (.t .z) rfl) rfl rfl ?_
      refine lRdG rfl (.s (.s (.s (.s .z)))) (decide_eq_false h9) (dMulI (.t (.s (.s .z))) (.t .z)) rfl rfl ?_
      refine lRdG rfl (.s (.s (.s (.s (.s .z))))) (decide_eq_false h9) (dGt (.t .z) (.c rfl)) rfl rfl ?_
      refine lRd (dPickF (.t (.s (.s (.s (.s (.s (.s .z))))))) (decide_eq_false h9) (.t .z)) rfl rfl ?_
      refine lRd (dMove (.t .z)) rfl rfl ?_
      refine lCase (fun h10 => ?_) (fun h10 => ?_)
      · refine lPass rfl .z (nbF (decide_eq_true h10)) rfl ?_
        refine lPass rfl .z (nbF (decide_eq_true h10)) rfl ?_
        refine lPass rfl .z (nbF (decide_eq_true h10)) rfl ?_
        refine lPass rfl .z (nbF (decide_eq_true h10)) rfl ?_
        refine lPass rfl .z (nbF (decide_eq_true h10)) rfl ?_
        refine lPass rfl .z (nbF (decide_eq_true h10)) rfl ?_
        refine lRd (dPickT (.t .z) (decide_eq_true h10) (.c rfl)) rfl rfl ?_
        refine lKeep (.k (.d (.d (.d (.d (.d (.d (.d (.d (.d (.d (.d (.d (.k (.k (.k (.k (.k (.k .n))))))))))))))))))) ?_
        refine lNil ?_
        exact xJoin true () (.c .z (.c (.s .z) (.c (.s (.s .z)) (.c (.s (.s (.s .z))) (.c (.s (.s (.s (.s .z)))) (.c (.s (.s (.s (.s (.s .z))))) (.c (.s (.s (.s (.s (.s (.s .z)))))) .n))))))) (.c .z (.c .z (.c .z (.c .z (.c .z .nil)))))
      · refine lRdG rfl .z (decide_eq_false h10) (dFld fld_23_0 (by decide) (.t (.s (.s (.s (.s (.s (.s (.s (.s (.s (.s (.s (.s (.s (.s (.s (.s .z))))))))))))))))) rfl) rfl rfl ?_
        refine lRdG rfl (.s .z) (decide_eq_false h10) (dLoad (.s (.s (.s .z))) agg_3 (.t .z) rfl) rfl rfl ?_
        refine lRdG rfl (.s (.s .z)) (decide_eq_false h10) (dFld fld_23_1 (by decide) (.t (.s (.s (.s (.s (.s (.s (.s (.s (.s (.s (.s (.s (.s (.s (.s (.s (.s (.s .z))))))))))))))))))) rfl) rfl rfl ?_
        refine lRdG rfl (.s (.s (.s .z))) (decide_eq_false h10) (dLoad (.s (.s (.s .z))) agg_3 (.t .z) rfl) rfl rfl ?_
        refine lRdG rfl (.s (.s (.s (.s .z)))) (decide_eq_false h10) (dMulI (.t (.s (.s .z))) (.t .z)) rfl rfl ?_
        refine lRdG rfl (.s (.s (.s (.s (.s .z))))) (decide_eq_false h10) (dGt (.t .z) (.c rfl)) rfl rfl ?_
        refine lRd (dPickF (.t (.s (.s (.s (.s (.s (.s .z))))))) (decide_eq_false h10) (.t .z)) rfl rfl ?_
        refine lKeep (.k (.d (.d (.d (.d (.d (.d (.d (.d (.d (.d (.d (.d (.d (.d (.d (.d (.d (.d (.k (.k (.k (.k (.k (.k .n))))))))))))))))))))))))) ?_
        refine lNil ?_
        exact xJoin (decide ((w64 (a1.f_Rows * a1.f_Cols)) > 60)) () (.c .z (.c (.s .z) (.c (.s (.s .z)) (.c (.s (.s (.s .z))) (.c (.s (.s (.s (.s .z)))) (.c (.s (.s (.s (.s (.s .z))))) (.c (.s (.s (.s (.s (.s (.s .z)))))) .n))))))) (.c .z (.c .z (.c .z (.c .z (.c .z .nil)))))
  · refine xCode ?_
    refine cCondB (.t .z) (fun h13 => ?_) (fun h13 => ?_)
    · refine cSeq ?_
      refine cFact (oneRo (.s .z)) fun h14 => ?_
      refine cRegionM [2] [(0, .early), (1, .early), (2, .only), (3, .quiet)] mixed (by kernel_rfl) (.c .z (.c .z (.c (.s .z) (.c (.s .z) (.c .z .nil))))) (.c (.c (.c (.c .n)))) ?_
      refine mRd rfl rfl (fun _ _ _ => dLoadA (us := [.int .i64 o4.1.f_Plain.f_Rows, .int .i64 o4.1.f_Plain.f_Cols, .int .i64 o4.1.f_More.f_Rows, .int .i64 o4.1.f_More.f_Cols, .int .i64 o4.1.f_P.f_Size.f_Rows, .int .i64 o4.1.f_P.f_Size.f_Cols, x5, .int .i64 o4.1.f_P.f_Cursor, .bool o4.1.f_Other]) .z agg_31 siz_31 rfl (.t (.s .z)) rfl) rfl rfl ?_
      refine mRdK rfl rfl (fun _ _ _ => dAssign (.c rfl)) (.k (.k (.k (.k (.k (.d (Keep.refl _))))))) rfl rfl ?_
      refine mChU rfl rfl (uStoreA (us := [.int .i64 o4.1.f_Plain.f_Rows, .int .i64 o4.1.f_Plain.f_Cols, .int .i64 o4.1.f_More.f_Rows, .int .i64 o4.1.f_More.f_Cols, .int .i64 o4.1.f_P.f_Size.f_Rows, .int .i64 o4.1.f_P.f_Size.f_Cols, x5, .int .i64 o4.1.f_P.f_Cursor, .bool o4.1.f_Other]) (cs' := [.int .i64 o4.1.f_Plain.f_Rows, .int .i64 o4.1.f_Plain.f_Cols, .int .i64 o4.1.f_More.f_Rows, .int .i64 o4.1.f_More.f_Cols, .int .i64 o4.1.f_P.f_Size.f_Rows, .int .i64 o4.1.f_P.f_Size.f_Cols, x5, .int .i64 o4.1.f_P.f_Cursor, .bool o4.1.f_Other]) (.s (.s (.s (.s .z)))) siz_31 rfl (by intro u hu; simp only [List.mem_cons, List.not_mem_nil, or_false] at hu; rcases hu with rfl | rfl | rfl | rfl | rfl | rfl | rfl | rfl | rfl <;> first | rfl | assumption) rfl (by simp) (.t (.s (.s (.s (.s (.s .z)))))) (.t (.s .z))) (.c .z (.c .z (.c .z (.c .z (.c .z .nil))))) (.c (.c (.c (.c .n)))) ?_
      refine mRdK rfl rfl (fun _ _ _ => dAssign (.c rfl)) (.k (.k (.k (.k (.d (Keep.refl _)))))) rfl rfl ?_
      refine mKeep (.k (.k (.d (.d (.k (.k (.k (.k .n)))))))) ?_
      refine mNil ?_
      refine xCode ?_
      refine cRet ?_
      refine rLeave hD ?_
      exact lvRet (rs := [.tmp 4, .cell 5 31, .tmp 6]) rfl (.t (.s .z) (.a (.s (.s (.s .z))) (.s (.s (.s (.s .z)))) agg_31 siz_31 (.t .z .n))) ((0, 0, undef, undef), x5) rfl (.c (.s .z) .nil)
    · refine cSkip ?_
      refine xCode ?_
      refine cSeq ?_
      refine cRegion ?_
      refine lRd (dLoadA (us := [.int .i64 a0.f_Rows, .int .i64 a0.f_Cols]) (.s (.s (.s (.s .z)))) agg_23 siz_23 rfl (.t (.s (.s (.s (.s (.s (.s .z))))))) rfl) rfl rfl ?_
      refine lRd (dLoadA (us := [.int .i64 a1.f_Rows, .int .i64 a1.f_Cols]) (.s (.s (.s .z))) agg_23 siz_23 rfl (.t (.s (.s (.s (.s (.s (.s .z))))))) rfl) rfl rfl ?_
      refine lCallS fok_16 (.c (.t (.s .z)) (.c (.t .z) .n)) (screen_New_c a0 a1) .n rfl rfl (fun o15 x16 h17 => ?_) (fun o18 x19 h20 => ?_)
      · refine lRd (dMove (.t .z)) rfl rfl ?_
        refine lRd (dExtract (.t .z) rfl) rfl rfl ?_
        refine lRd (dExtract (.t (.s .z)) rfl) rfl rfl ?_
        refine lRd (dAssign (.t (.s .z))) rfl rfl ?_
        refine lRdN (dAssign (.t (.s .z))) rfl ?_
        refine lKeep (.k (.d (.d (.d (.d (.d (.d (.d (.k (.k (.k (.k .n)))))))))))) ?_
        refine lNil ?_
        refine xCode ?_
        refine cSeq ?_
        refine cFact (oneRo (.s (.s (.s (.s .z))))) fun h21 => ?_
        refine cRegionM [3] [(0, .early), (1, .early), (2, .early), (3, .only), (4, .quiet)] mixed (by kernel_rfl) (.c .z (.c .z (.c .z (.c .z (.c .z (.c (.s .z) (.c (.s .z) (.c .z .nil)))))))) (.c (.c (.c (.c (.c (.c (.c .n))))))) ?_
        refine mRd rfl rfl (fun _ _ _ => dMove (.t .z)) rfl rfl ?_
        refine mRd rfl rfl (fun _ _ _ => dLoadA (us := [.int .i64 o4.1.f_Plain.f_Rows, .int .i64 o4.1.f_Plain.f_Cols, .int .i64 o4.1.f_More.f_Rows, .int .i64 o4.1.f_More.f_Cols, .int .i64 o4.1.f_P.f_Size.f_Rows, .int .i64 o4.1.f_P.f_Size.f_Cols, x5, .int .i64 o4.1.f_P.f_Cursor, .bool o4.1.f_Other]) (.s (.s (.s .z))) agg_31 siz_31 rfl (.t (.s (.s .z))) rfl) rfl rfl ?_
        refine mRdK rfl rfl (fun _ _ _ => dAssign (.t (.s .z))) (.k (.k (.k (.k (.k (.k (.d (Keep.refl _)))))))) rfl rfl ?_
        refine mChU rfl rfl (uStoreA (us := [.int .i64 o4.1.f_Plain.f_Rows, .int .i64 o4.1.f_Plain.f_Cols, .int .i64 o4.1.f_More.f_Rows, .int .i64 o4.1.f_More.f_Cols, .int .i64 o4.1.f_P.f_Size.f_Rows, .int .i64 o4.1.f_P.f_Size.f_Cols, x5, .int .i64 o4.1.f_P.f_Cursor, .bool o4.1.f_Other]) (cs' := [.int .i64 o4.1.f_Plain.f_Rows, .int .i64 o4.1.f_Plain.f_Cols, .int .i64 o4.1.f_More.f_Rows, .int .i64 o4.1.f_More.f_Cols, .int .i64 o4.1.f_P.f_Size.f_Rows, .int .i64 o4.1.f_P.f_Size.f_Cols, x5, .int .i64 o4.1.f_P.f_Cursor, .bool o4.1.f_Other]) (.s (.s (.s (.s (.s (.s (.s .z))))))) siz_31 rfl (by intro u hu; simp only [List.mem_cons, List.not_mem_nil, or_false] at hu; rcases hu with rfl | rfl | rfl | rfl | rfl | rfl | rfl | rfl | rfl <;> first | rfl | assumption) rfl (by simp) (.t (.s (.s (.s (.s (.s (.s .z))))))) (.t (.s .z))) (.c .z (.c .z (.c .z (.c .z (.c .z (.c .z (.c .z (.c .z .nil)))))))) (.c (.c (.c (.c (.c (.c (.c .n))))))) ?_
        refine mRdK rfl rfl (fun _ _ _ => dAssign (.c rfl)) (.k (.k (.k (.k (.k (.d (Keep.refl _))))))) rfl rfl ?_
        refine mKeep (.k (.k (.d (.d (.d (.d (.k .n))))))) ?_
        refine mNil ?_
        refine xCode ?_
        refine cRet ?_
        refine rLeave hD ?_
        exact lvRet (rs := [.tmp 4, .cell 5 31, .tmp 6]) rfl (.t (.s .z) (.a (.s (.s .z)) (.s (.s (.s (.s (.s (.s (.s .z))))))) agg_31 siz_31 (.t .z .n))) ((x16.1.1, x16.1.2.1, x16.1.2.2, x5), undef) rfl (.c .z (.c .z (.c .z (.c (.s .z) .nil))))
      · refine lRd (dMove (.t .z)) rfl rfl ?_
        refine lRd (dExtract (.t .z) rfl) rfl rfl ?_
        refine lRd (dExtract (.t (.s .z)) rfl) rfl rfl ?_
        refine lRd (dAssign (.t (.s .z))) rfl rfl ?_
        refine lRdN (dAssign (.t (.s .z))) rfl ?_
        refine lKeep (.k (.d (.d (.d (.d (.d (.d (.d (.k (.k (.k (.k .n)))))))))))) ?_
        refine lNil ?_
        refine xCode ?_
        refine cSeq ?_
        refine cFact (oneRo (.s .z)) fun h22 => ?_
        refine cRegionM [3] [(0, .early), (1, .early), (2, .early), (3, .only), (4, .quiet)] mixed (by kernel_rfl) (.c .z (.c .z (.c (.s .z) (.c (.s .z) (.c .z .nil))))) (.c (.c (.c (.c .n)))) ?_
        refine mRd rfl rfl (fun _ _ _ => dMove (.t .z)) rfl rfl ?_
        refine mRd rfl rfl (fun _ _ _ => dLoadA (us := [.int .i64 o4.1.f_Plain.f_Rows, .int .i64 o4.1.f_Plain.f_Cols, .int .i64 o4.1.f_More.f_Rows, .int .i64 o4.1.f_More.f_Cols, .int .i64 o4.1.f_P.f_Size.f_Rows, .int .i64 o4.1.f_P.f_Size.f_Cols, x5, .int .i64 o4.1.f_P.f_Cursor, .bool o4.1.f_Other]) .z agg_31 siz_31 rfl (.t (.s (.s .z))) rfl) rfl rfl ?_
        refine mRdK rfl rfl (fun _ _ _ => dAssign (.t (.s .z))) (.k (.k (.k (.k (.k (.k (.d (Keep.refl _)))))))) rfl rfl ?_
        refine mChU rfl rfl (uStoreA (us := [.int .i64 o4.1.f_Plain.f_Rows, .int .i64 o4.1.f_Plain.f_Cols, .int .i64 o4.1.f_More.f_Rows, .int .i64 o4.1.f_More.f_Cols, .int .i64 o4.1.f_P.f_Size.f_Rows, .int .i64 o4.1.f_P.f_Size.f_Cols, x5, .int .i64 o4.1.f_P.f_Cursor, .bool o4.1.f_Other]) (cs' := [.int .i64 o4.1.f_Plain.f_Rows, .int .i64 o4.1.f_Plain.f_Cols, .int .i64 o4.1.f_More.f_Rows, .int .i64 o4.1.f_More.f_Cols, .int .i64 o4.1.f_P.f_Size.f_Rows, .int .i64 o4.1.f_P.f_Size.f_Cols, x5, .int .i64 o4.1.f_P.f_Cursor, .bool o4.1.f_Other]) (.s (.s (.s (.s .z)))) siz_31 rfl (by intro u hu; simp only [List.mem_cons, List.not_mem_nil, or_false] at hu; rcases hu with rfl | rfl | rfl | rfl | rfl | rfl | rfl | rfl | rfl <;> first | rfl | assumption) rfl (by simp) (.t (.s (.s (.s (.s (.s (.s .z))))))) (.t (.s .z))) (.c .z (.c .z (.c .z (.c .z (.c .z .nil))))) (.c (.c (.c (.c .n)))) ?_
        refine mRdK rfl rfl (fun _ _ _ => dAssign (.c rfl)) (.k (.k (.k (.k (.k (.d (Keep.refl _))))))) rfl rfl ?_
        refine mKeep (.k (.k (.d (.d (.d (.d (.k .n))))))) ?_
        refine mNil ?_
        refine xCode ?_
        refine cRet ?_
        refine rLeave hD ?_
        exact lvRet (rs := [.tmp 4, .cell 5 31, .tmp 6]) rfl (.t (.s .z) (.a (.s (.s .z)) (.s (.s (.s (.s .z)))) agg_31 siz_31 (.t .z .n))) ((0, 0, undef, undef), x5) rfl (.c (.s .z) .nil)

end Go.Proofs.Ytecipnjloenndaa.G
