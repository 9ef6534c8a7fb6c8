/-
The walk of the seat, by program: each function's model, and its contract. Part 2.
-/
import Derived.Test.YtecipnjloenndaaScrG1
import Derived.Test.YtecipnjloenndaaProg
set_option linter.unusedVariables false
set_option linter.unusedSimpArgs false
set_option maxRecDepth 20000
set_option maxHeartbeats 2000000
namespace Go.Proofs.Ytecipnjloenndaa.G
open Go Go.RowKit Go.Proofs.Ytecipnjloenndaa.SX
-- greenscreen/field.Of
def field_Of_m (K : Nat) (a0 : plane_Plane) (a1 : Int) : Option (field_Field × Bool) := (field_Before_m K a0 a1).bind fun o2 => (if o2 < 0 then some ((⟨0, 0, 0⟩ : field_Field), false) else (field_at_m K a0 o2).bind fun o6 => some (o6, true))
theorem field_Of_c (K : Nat) (a0 : plane_Plane) (a1 : Int) (b0_0 : Nat) (v0_1 : Value) : Con Try.prog 73 #[.pointer (some ⟨b0_0, 0, none⟩), .int .i64 a1] [.blk b0_0 [.int .i64 a0.f_size.f_Rows, .int .i64 a0.f_size.f_Cols, v0_1, .int .i64 a0.f_cursor] 66, .own v0_1 44 k_api_Cell a0.f_cells] (field_Of_m K a0 a1) (fun (o : field_Field × Bool) (x : Unit) => .tuple #[.agg #[.int .i64 o.1.f_Start, .int .i64 o.1.f_Len, vB o.1.f_Attr], .bool o.2]) (fun (o : field_Field × Bool) (x : Unit) => [.blk b0_0 [.int .i64 a0.f_size.f_Rows, .int .i64 a0.f_size.f_Cols, v0_1, .int .i64 a0.f_cursor] 66, .own v0_1 44 k_api_Cell a0.f_cells]) := by
  unfold field_Of_m
  refine con (args := [.pointer (some ⟨b0_0, 0, none⟩), .int .i64 a1]) Try.func73 rfl 16 rfl (.c (.c .n)) rfl fun c hD hrn => ?_
  refine cSeq ?_
  refine cRegion ?_
  refine lCh (cAlloc (cs := [.int .i64 0, .int .i64 0, vB 0]) zer_109 rfl) rfl rfl fun b1 => ?_
  refine lRd (dAssign (.c rfl)) rfl rfl ?_
  refine lNil ?_
  refine xCode ?_
  refine cSeq ?_
  refine cRegion ?_
  refine lRd (dMove (.t (.s (.s .z)))) rfl rfl ?_
  refine lRd (dMove (.t (.s (.s (.s (.s .z)))))) rfl rfl ?_
  refine lCall fok_91 (.c (.t (.s .z)) (.c (.t .z) .n)) (field_Before_c K a0 a1 b0_0 v0_1) (.c (.s .z) (.c (.s .z) .n)) rfl rfl fun o2 x3 h4 => ?_
  refine lRd (dAssign (.t .z)) rfl rfl ?_
  refine lKeep (.k (.d (.d (.d (.k (.k (.k .n))))))) ?_
  refine lNil ?_
  refine xCode ?_
  refine cSeq ?_
  refine cSeq ?_
  refine cRegion ?_
  refine lRd (dMove (.t .z)) rfl rfl ?_
  refine lRd (dLt (.t .z) (.c rfl)) rfl rfl ?_
  refine lKeep (.k (.d (.k (.k (.k (.k .n)))))) ?_
  refine lNil ?_
  refine xCode ?_
  refine cCond (.t .z) (fun h5 => ?_) (fun h5 => ?_)
  · refine cSeq ?_
    refine cRegion ?_
    refine lRd (dBuild (cs := [.int .i64 0, .int .i64 0, vB 0]) zer_109 rfl plc_109 .n rfl) rfl rfl ?_
    refine lChU (uStoreA (us := [.int .i64 0, .int .i64 0, vB 0]) (cs' := [.int .i64 0, .int .i64 0, vB 0]) (.s (.s .z)) siz_109 rfl (by intro u hu; simp only [List.mem_cons, List.not_mem_nil, or_false] at hu; rcases hu with rfl | rfl | rfl <;> first | rfl | assumption) rfl (by simp) (.t (.s (.s (.s (.s .z))))) (.t .z)) ?_
    refine lRdK (dAssign (.c rfl)) (.k (.k (.k (.d (Keep.refl _))))) rfl rfl ?_
    refine lKeep (.k (.d (.d (.k (.k (.k .n)))))) ?_
    refine lNil ?_
    refine xCode ?_
    refine cRet ?_
    refine rLeave hD ?_
    exact lvRet (rs := [.cell 4 109, .tmp 5]) rfl (.a (.s (.s .z)) (.s (.s .z)) agg_109 siz_109 (.t .z .n)) () rfl (.c .z (.c .z .nil))
  · refine cSkip ?_
    refine xCode ?_
    refine cSeq ?_
    refine cRegion ?_
    refine lRd (dMove (.t (.s (.s (.s (.s .z)))))) rfl rfl ?_
    refine lRd (dMove (.t (.s (.s .z)))) rfl rfl ?_
    refine lCall fok_71 (.c (.t (.s .z)) (.c (.t .z) .n)) (field_at_c K a0 o2 b0_0 v0_1) (.c .z (.c .z .n)) rfl rfl fun o6 x7 h8 => ?_
    refine lChU (uStoreA (us := [.int .i64 o6.f_Start, .int .i64 o6.f_Len, vB o6.f_Attr]) (cs' := [.int .i64 o6.f_Start, .int .i64 o6.f_Len, vB o6.f_Attr]) (.s (.s .z)) siz_109 rfl (by intro u hu; simp only [List.mem_cons, List.not_mem_nil, or_false] at hu; rcases hu with rfl | rfl | rfl <;> first | rfl | assumption) rfl (by simp) (.t (.s (.s (.s (.s (.s (.s .z))))))) (.t .z)) ?_
    refine lRdK (dAssign (.c rfl)) (.k (.k (.k (.k (.k (.d (Keep.refl _))))))) rfl rfl ?_
    refine lKeep (.k (.d (.d (.d (.d (.d (.k .n))))))) ?_
    refine lNil ?_
    refine xCode ?_
    refine cRet ?_
    refine rLeave hD ?_
    exact lvRet (rs := [.cell 4 109, .tmp 5]) rfl (.a (.s .z) (.s (.s .z)) agg_109 siz_109 (.t .z .n)) () rfl (.c .z (.c .z .nil))

-- greenscreen/field.Open
def field_Open_m (K : Nat) (a0 : plane_Plane) (a1 : Int) : Option (Bool) := (field_Of_m K a0 a1).bind fun o1 => (if (!o1.2) = true then ((if a1 ≥ 0 then (plane_Plane_Len_m a0).bind fun o7 => some (decide (a1 < o7)) else some false)).bind fun (s10 : Bool) => some s10 else (if o1.1.f_Start ≠ a1 then (attr_Protected_m o1.1.f_Attr).bind fun o13 => some (!o13) else some false))
theorem field_Open_c (K : Nat) (a0 : plane_Plane) (a1 : Int) (b0_0 : Nat) (v0_1 : Value) : Con Try.prog 53 #[.pointer (some ⟨b0_0, 0, none⟩), .int .i64 a1] [.blk b0_0 [.int .i64 a0.f_size.f_Rows, .int .i64 a0.f_size.f_Cols, v0_1, .int .i64 a0.f_cursor] 66, .own v0_1 44 k_api_Cell a0.f_cells] (field_Open_m K a0 a1) (fun (o : Bool) (x : Unit) => .bool o) (fun (o : Bool) (x : Unit) => [.blk b0_0 [.int .i64 a0.f_size.f_Rows, .int .i64 a0.f_size.f_Cols, v0_1, .int .i64 a0.f_cursor] 66, .own v0_1 44 k_api_Cell a0.f_cells]) := by
  unfold field_Open_m
  refine con (args := [.pointer (some ⟨b0_0, 0, none⟩), .int .i64 a1]) Try.func53 rfl 33 rfl (.c (.c .n)) rfl fun c hD hrn => ?_
  refine cSeq ?_
  refine cRegion ?_
  refine lRd (dAssign (.c rfl)) rfl rfl ?_
  refine lNil ?_
  refine xCode ?_
  refine cSeq ?_
  refine cRegion ?_
  refine lRd (dMove (.t (.s .z))) rfl rfl ?_
  refine lRd (dMove (.t (.s (.s (.s .z))))) rfl rfl ?_
  refine lCall fok_73 (.c (.t (.s .z)) (.c (.t .z) .n)) (field_Of_c K a0 a1 b0_0 v0_1) (.c .z (.c .z .n)) rfl rfl fun o1 x2 h3 => ?_
  refine lRd (dMove (.t .z)) rfl rfl ?_
  refine lRd (dExtract (.t .z) rfl) rfl rfl ?_
  refine lRd (dExtract (.t (.s .z)) rfl) rfl rfl ?_
  refine lCh (cAlloc (cs := [.int .i64 0, .int .i64 0, vB 0]) zer_109 rfl) rfl rfl fun b4 => ?_
  refine lChU (uStoreA (us := [.int .i64 o1.1.f_Start, .int .i64 o1.1.f_Len, vB o1.1.f_Attr]) (cs' := [.int .i64 o1.1.f_Start, .int .i64 o1.1.f_Len, vB o1.1.f_Attr]) .z siz_109 rfl (by intro u hu; simp only [List.mem_cons, List.not_mem_nil, or_false] at hu; rcases hu with rfl | rfl | rfl <;> first | rfl | assumption) rfl (by simp) (.t .z) (.t (.s (.s .z)))) ?_
  refine lRd (dAssign (.t (.s .z))) rfl rfl ?_
  refine lKeep (.k (.k (.d (.d (.d (.d (.d (.d (.k (.k (.k .n))))))))))) ?_
  refine lNil ?_
  refine xCode ?_
  refine cSeq ?_
  refine cSeq ?_
  refine cRegion ?_
  refine lRd (dMove (.t .z)) rfl rfl ?_
  refine lRd (dNot (.t .z)) rfl rfl ?_
  refine lKeep (.k (.d (.d (.k (.k (.k (.k .n))))))) ?_
  refine lNil ?_
  refine xCode ?_
  refine cCondB (.t .z) (fun h5 => ?_) (fun h5 => ?_)
  · refine cSeq ?_
    refine cJoin (S := Bool) (X := Unit) (fun (s : Bool) (x : Unit) => [(4, .bool s), (5, .pointer (some ⟨b4, 0, none⟩)), (1, .int .i64 a1)]) (fun (s : Bool) (x : Unit) => [.blk b0_0 [.int .i64 a0.f_size.f_Rows, .int .i64 a0.f_size.f_Cols, v0_1, .int .i64 a0.f_cursor] 66, .own v0_1 44 k_api_Cell a0.f_cells, .blk b4 [.int .i64 o1.1.f_Start, .int .i64 o1.1.f_Len, vB o1.1.f_Attr] 109]) ?_ (fun s10 x11 => ?_)
    · refine cRegion ?_
      refine lRd (dMove (.t (.s (.s (.s (.s .z)))))) rfl rfl ?_
      refine lRd (dGe (.t .z) (.c rfl)) rfl rfl ?_
      refine lRd (dMove (.t .z)) rfl rfl ?_
      refine lCase (fun h6 => ?_) (fun h6 => ?_)
      · refine lRdG rfl .z (decide_eq_true h6) (dMove (.t (.s (.s (.s (.s (.s (.s (.s .z))))))))) rfl rfl ?_
        refine lRdG rfl (.s .z) (decide_eq_true h6) (dMove (.t (.s (.s (.s (.s (.s (.s (.s .z))))))))) rfl rfl ?_
        refine lCallG rfl (.s (.s .z)) (decide_eq_true h6) fok_12 (.c (.t .z) .n) (plane_Plane_Len_c a0 b0_0 v0_1) (.c (.s .z) (.c (.s .z) .n)) rfl rfl fun o7 x8 h9 => ?_
        refine lRdG rfl (.s (.s (.s .z))) (decide_eq_true h6) (dLt (.t (.s (.s .z))) (.t .z)) rfl rfl ?_
        refine lRd (dPickT (.t (.s (.s (.s (.s .z))))) (decide_eq_true h6) (.t .z)) rfl rfl ?_
        refine lRdK (dAssign (.t .z)) (.k (.k (.k (.k (.k (.k (.k (.k (.k (.k (.d (Keep.refl _)))))))))))) rfl rfl ?_
        refine lKeep (.k (.d (.d (.d (.d (.d (.d (.d (.d (.d (.k (.d (.k .n))))))))))))) ?_
        refine lNil ?_
        exact xJoin (decide (a1 < o7)) () (.c .z (.c (.s .z) (.c (.s (.s .z)) .n))) (.c .z (.c .z (.c .z .nil)))
      · refine lPass rfl .z (nbT (decide_eq_false h6)) rfl ?_
        refine lPass rfl .z (nbT (decide_eq_false h6)) rfl ?_
        refine lPass rfl .z (nbT (decide_eq_false h6)) rfl ?_
        refine lPass rfl .z (nbT (decide_eq_false h6)) rfl ?_
        refine lRd (dPickF (.t .z) (decide_eq_false h6) (.c rfl)) rfl rfl ?_
        refine lRdK (dAssign (.t .z)) (.k (.k (.k (.k (.k (.k (.d (Keep.refl _)))))))) rfl rfl ?_
        refine lKeep (.k (.d (.d (.d (.d (.d (.k (.d (.k .n))))))))) ?_
        refine lNil ?_
        exact xJoin false () (.c .z (.c (.s .z) (.c (.s (.s .z)) .n))) (.c (.s .z) (.c (.s .z) (.c .z .nil)))
    · refine xCode ?_
      refine cRet ?_
      refine rLeave hD ?_
      exact lvRet (rs := [.tmp 4]) rfl (.t .z .n) () rfl (.c .z (.c .z .nil))
  · refine cSkip ?_
    refine xCode ?_
    refine cSeq ?_
    refine cRegion ?_
    refine lRd (dFld fld_109_0 (by decide) (.t (.s .z)) rfl) rfl rfl ?_
    refine lRd (dLoad .z agg_3 (.t .z) rfl) rfl rfl ?_
    refine lRd (dMove (.t (.s (.s (.s (.s (.s (.s .z)))))))) rfl rfl ?_
    refine lRd (dNe (.t (.s .z)) (.t .z)) rfl rfl ?_
    refine lRd (dMove (.t .z)) rfl rfl ?_
    refine lCase (fun h12 => ?_) (fun h12 => ?_)
    · refine lRdG rfl .z (decide_eq_true h12) (dFld fld_109_2 (by decide) (.t (.s (.s (.s (.s (.s (.s .z))))))) rfl) rfl rfl ?_
      refine lRdG rfl (.s .z) (decide_eq_true h12) (dLoad .z agg_5 (.t .z) rfl) rfl rfl ?_
      refine lCallG rfl (.s (.s .z)) (decide_eq_true h12) fok_55 (.c (.t .z) .n) (attr_Protected_c o1.1.f_Attr) .n rfl rfl fun o13 x14 h15 => ?_
      refine lRdG rfl (.s (.s (.s .z))) (decide_eq_true h12) (dNot (.t .z)) rfl rfl ?_
      refine lRd (dPickT (.t (.s (.s (.s (.s .z))))) (decide_eq_true h12) (.t .z)) rfl rfl ?_
      refine lRdK (dAssign (.t .z)) (.k (.k (.k (.k (.k (.k (.k (.k (.k (.k (.k (.k (.d (Keep.refl _)))))))))))))) rfl rfl ?_
      refine lKeep (.k .n) ?_
      refine lNil ?_
      refine xCode ?_
      refine cRet ?_
      refine rLeave hD ?_
      exact lvRet (rs := [.tmp 4]) rfl (.t .z .n) () rfl (.c (.s .z) (.c (.s .z) .nil))
    · refine lPass rfl .z (nbT (decide_eq_false h12)) rfl ?_
      refine lPass rfl .z (nbT (decide_eq_false h12)) rfl ?_
      refine lPass rfl .z (nbT (decide_eq_false h12)) rfl ?_
      refine lPass rfl .z (nbT (decide_eq_false h12)) rfl ?_
      refine lRd (dPickF (.t .z) (decide_eq_false h12) (.c rfl)) rfl rfl ?_
      refine lRdK (dAssign (.t .z)) (.k (.k (.k (.k (.k (.k (.k (.k (.d (Keep.refl _)))))))))) rfl rfl ?_
      refine lKeep (.k .n) ?_
      refine lNil ?_
      refine xCode ?_
      refine cRet ?_
      refine rLeave hD ?_
      exact lvRet (rs := [.tmp 4]) rfl (.t .z .n) () rfl (.c (.s .z) (.c (.s .z) .nil))

-- (*greenscreen/paint.brush).wipe
def paint_brush_wipe_l1 (K : Nat) (o10 : (Int × Int × Int × Int)) : Nat → (Int × Int × Int × (List api_Cell) × Int) → Option (Sum (Unit) (Sum (Int × Int × (List api_Cell) × Int) (Unit)))
  | 0, _ => none
  | n + 1, s29 => ((field_Open_m K (⟨(⟨s29.2.1, s29.2.2.1⟩ : api_Size), s29.2.2.2.1, s29.2.2.2.2⟩ : plane_Plane) s29.1).bind fun o34 => (if o34 = true then (plane_Plane_Set_m (⟨(⟨s29.2.1, s29.2.2.1⟩ : api_Size), s29.2.2.2.1, s29.2.2.2.2⟩ : plane_Plane) s29.1 (⟨0, false, false, 0, 0⟩ : api_Cell)).bind fun o38 => some (Sum.inl (o38.1.f_size.f_Rows, o38.1.f_size.f_Cols, o38.1.f_cells, o38.1.f_cursor)) else some (Sum.inl (s29.2.1, s29.2.2.1, s29.2.2.2.1, s29.2.2.2.2)))).bind (onE (fun (s41 : Int × Int × (List api_Cell) × Int) => (addr_Move_m (⟨o10.1, o10.2.1⟩ : api_Size) s29.1 1).bind fun o44 => (if o44 = o10.2.2.2 then some (Sum.inr (Sum.inl (s41.1, s41.2.1, s41.2.2.1, s41.2.2.2))) else (paint_brush_wipe_l1 K o10 n) (o44, s41.1, s41.2.1, s41.2.2.1, s41.2.2.2))) (fun (_ : Unit) => none))
def paint_brush_wipe_m (K : Nat) (a0 : paint_brush) (a1 : api_Order) : Option (paint_brush × Int) := (paint_brush_jump_m a0 a1).bind fun o3 => (if o3.2 ≠ 0 then some (o3.1, o3.2) else (plane_Plane_Size_m o3.1.f_p).bind fun o7 => (addr_Between_m o7 a0.f_at o3.1.f_at).bind fun o10 => ((addr_Cells_m (⟨o10.1, o10.2.1⟩ : api_Size)).bind fun o20 => ((if o10.2.2.1 < 0 then some true else (if o10.2.2.1 ≥ o20 then some true else (if o10.2.2.2 < 0 then some true else some (decide (o10.2.2.2 ≥ o20)))))).bind fun (s26 : Bool) => (if s26 = true then some (Sum.inl (o3.1.f_p.f_size.f_Rows, o3.1.f_p.f_size.f_Cols, o3.1.f_p.f_cells, o3.1.f_p.f_cursor)) else (paint_brush_wipe_l1 K o10 K (o10.2.2.1, o3.1.f_p.f_size.f_Rows, o3.1.f_p.f_size.f_Cols, o3.1.f_p.f_cells, o3.1.f_p.f_cursor)).bind (onS fun (s48 : Unit) => none))).bind (onE (fun (s50 : Int × Int × (List api_Cell) × Int) => some ((⟨(⟨(⟨s50.1, s50.2.1⟩ : api_Size), s50.2.2.1, s50.2.2.2⟩ : plane_Plane), o3.1.f_at, o3.1.f_look, o3.1.f_laid⟩ : paint_brush), 0)) (fun (_ : Unit) => none)))
theorem paint_brush_wipe_c (K : Nat) (a0 : paint_brush) (a1 : api_Order) (b0_0 : Nat) (b0_1 : Nat) (v0_2 : Value) (v1_0 : Value) (v1_1 : Value) : Con Try.prog 90 #[.pointer (some ⟨b0_0, 0, none⟩), .agg #[vB a1.f_Kind, .int .i64 a1.f_Addr, vB a1.f_Byte, .bool a1.f_GE, v1_0, v1_1]] [.blk b0_0 [.pointer (some ⟨b0_1, 0, none⟩), .int .i64 a0.f_at, vB a0.f_look.f_Byte, .bool a0.f_look.f_GE, .bool a0.f_look.f_Start, vB a0.f_look.f_Light, vB a0.f_look.f_Color, .bool a0.f_laid] 123, .blk b0_1 [.int .i64 a0.f_p.f_size.f_Rows, .int .i64 a0.f_p.f_size.f_Cols, v0_2, .int .i64 a0.f_p.f_cursor] 66, .own v0_2 44 k_api_Cell a0.f_p.f_cells, .ro (kSl k_api_Pair) [v1_0] a1.f_Pairs, .ro (kSl kB) [v1_1] a1.f_Data] (paint_brush_wipe_m K a0 a1) (fun (o : paint_brush × Int) (x : Unit) => .int .i64 o.2) (fun (o : paint_brush × Int) (x : Unit) => [.blk b0_0 [.pointer (some ⟨b0_1, 0, none⟩), .int .i64 o.1.f_at, vB o.1.f_look.f_Byte, .bool o.1.f_look.f_GE, .bool o.1.f_look.f_Start, vB o.1.f_look.f_Light, vB o.1.f_look.f_Color, .bool o.1.f_laid] 123, .blk b0_1 [.int .i64 o.1.f_p.f_size.f_Rows, .int .i64 o.1.f_p.f_size.f_Cols, v0_2, .int .i64 o.1.f_p.f_cursor] 66, .own v0_2 44 k_api_Cell o.1.f_p.f_cells]) := by
  unfold paint_brush_wipe_m
  refine con (args := [.pointer (some ⟨b0_0, 0, none⟩), .agg #[vB a1.f_Kind, .int .i64 a1.f_Addr, vB a1.f_Byte, .bool a1.f_GE, v1_0, v1_1]]) Try.func90 rfl 43 rfl (.c (.c .n)) rfl fun c hD hrn => ?_
  refine cSeq ?_
  refine cRegion ?_
  refine lCh (cBox (cs := [.pointer (some ⟨b0_0, 0, none⟩)]) (.t .z) rfl) rfl rfl fun b1 => ?_
  refine lCh (cBox (cs := [vB a1.f_Kind, .int .i64 a1.f_Addr, vB a1.f_Byte, .bool a1.f_GE, v1_0, v1_1]) (.t (.s (.s .z))) rfl) rfl rfl fun b2 => ?_
  refine lRd (dAssign (.c rfl)) rfl rfl ?_
  refine lKeep (.k (.k (.k .n))) ?_
  refine lNil ?_
  refine xCode ?_
  refine cSeq ?_
  refine cRegion ?_
  refine lRd (dLoad (.s .z) agg_121 (.t (.s (.s .z))) rfl) rfl rfl ?_
  refine lRd (dNil (.t .z)) rfl rfl ?_
  refine lRd (dFld fld_123_1 (by decide) (.t .z) rfl) rfl rfl ?_
  refine lRd (dLoad (.s (.s .z)) agg_3 (.t .z) rfl) rfl rfl ?_
  refine lRd (dAssign (.t .z)) rfl rfl ?_
  refine lKeep (.k (.d (.d (.d (.d (.k (.k (.k .n)))))))) ?_
  refine lNil ?_
  refine xCode ?_
  refine cSeq ?_
  refine cSeq ?_
  refine cRegion ?_
  refine lRd (dLoad (.s .z) agg_121 (.t (.s (.s (.s .z)))) rfl) rfl rfl ?_
  refine lRd (dLoadA (us := [vB a1.f_Kind, .int .i64 a1.f_Addr, vB a1.f_Byte, .bool a1.f_GE, v1_0, v1_1]) .z agg_97 siz_97 rfl (.t (.s (.s (.s .z)))) rfl) rfl rfl ?_
  refine lCall fok_83 (.c (.t (.s .z)) (.c (.t .z) .n)) (paint_brush_jump_c a0 a1 b0_0 b0_1 v0_2 v1_0 v1_1) (.c (.s (.s .z)) (.c (.s (.s .z)) (.c (.s (.s .z)) (.r (.s (.s .z)) (.r (.s (.s (.s .z))) .n))))) rfl rfl fun o3 x4 h5 => ?_
  refine lRd (dAssign (.t .z)) rfl rfl ?_
  refine lKeep (.k (.d (.d (.d (.k (.k (.d (.k .n)))))))) ?_
  refine lNil ?_
  refine xCode ?_
  refine cSeq ?_
  refine cRegion ?_
  refine lRd (dMove (.t .z)) rfl rfl ?_
  refine lRd (dNe (.t .z) (.c rfl)) rfl rfl ?_
  refine lKeep (.k (.d (.k (.k (.k (.k .n)))))) ?_
  refine lNil ?_
  refine xCode ?_
  refine cCond (.t .z) (fun h6 => ?_) (fun h6 => ?_)
  · refine cSeq ?_
    refine cRegion ?_
    refine lRd (dMove (.t (.s .z))) rfl rfl ?_
    refine lRdK (dAssign (.t .z)) (.k (.k (.k (.k (.d (Keep.refl _)))))) rfl rfl ?_
    refine lKeep (.k (.d (.d (.d (.k (.k .n)))))) ?_
    refine lNil ?_
    refine xCode ?_
    refine cRet ?_
    refine rLeave hD ?_
    exact lvRet (rs := [.tmp 4]) rfl (.t .z .n) () rfl (.c .z (.c .z (.c .z .nil)))
  · refine cSkip ?_
    refine xCode ?_
    refine cSeq ?_
    refine cSeq ?_
    refine cRegionM [10] [(0, .early), (1, .early), (2, .early), (3, .early), (4, .early), (5, .early), (6, .early), (7, .early), (8, .early), (9, .early), (10, .only)] mixed (by kernel_rfl) (.c .z (.c .z (.c .z (.c .z (.c .z (.c .z (.c .z .nil))))))) (.c (.c (.c (.c (.c (.c (.c .n))))))) ?_
    refine mRd rfl rfl (fun _ _ _ => dLoad (.s (.s (.s (.s .z)))) agg_121 (.t (.s (.s (.s (.s .z))))) rfl) rfl rfl ?_
    refine mRd rfl rfl (fun _ _ _ => dNil (.t .z)) rfl rfl ?_
    refine mRd rfl rfl (fun _ _ _ => dFld fld_123_0 (by decide) (.t .z) rfl) rfl rfl ?_
    refine mRd rfl rfl (fun _ _ _ => dLoad .z agg_39 (.t .z) rfl) rfl rfl ?_
    refine mCallQ rfl rfl fok_10 (.c (.t .z) .n) (plane_Plane_Size_c o3.1.f_p b0_1 v0_2) (.c (.s .z) (.c (.s .z) .n)) (fun _ _ => rfl) (fun _ _ => (.c (.s (.s .z)) (.c .z (.c .z (.c .z (.c .z (.c .z (.c .z .nil)))))))) rfl rfl fun o7 h9 => ?_
    refine mRd rfl rfl (fun _ _ _ => dMove (.t (.s (.s (.s (.s (.s (.s (.s .z))))))))) rfl rfl ?_
    refine mRd rfl rfl (fun _ _ _ => dLoad (.s (.s (.s (.s .z)))) agg_121 (.t (.s (.s (.s (.s (.s (.s (.s (.s (.s (.s .z))))))))))) rfl) rfl rfl ?_
    refine mRd rfl rfl (fun _ _ _ => dNil (.t .z)) rfl rfl ?_
    refine mRd rfl rfl (fun _ _ _ => dFld fld_123_1 (by decide) (.t .z) rfl) rfl rfl ?_
    refine mRd rfl rfl (fun _ _ _ => dLoad .z agg_3 (.t .z) rfl) rfl rfl ?_
    refine mCall rfl rfl fok_99 (.c (.t (.s (.s (.s (.s (.s .z)))))) (.c (.t (.s (.s (.s (.s .z))))) (.c (.t .z) .n))) (addr_Between_c o7 a0.f_at o3.1.f_at) .n (fun o10 x11 => (.c (.s (.s (.s .z))) (.c (.s (.s (.s .z))) (.c (.s (.s (.s .z))) (.c (.s (.s (.s .z))) (.c (.s (.s (.s .z))) (.c (.s (.s (.s .z))) (.c (.s (.s (.s .z))) (.c .z (.c .z (.c .z .nil))))))))))) (fun _ _ => (.c (.c (.c (.c (.c (.c (.c .n)))))))) rfl rfl fun o10 x11 h12  => ?_
    refine mKeep (.k (.d (.d (.d (.d (.d (.d (.d (.d (.d (.d (.d (.d (.d (.k (.k .n)))))))))))))))) ?_
    refine mNil ?_
    refine xCode ?_
    refine cBlock ?_
    refine cRange (X := (Unit) × (Unit)) (jc := .ret) (L1 := (fun (s : Int × Int × (List api_Cell) × Int) (x : (Unit) × (Unit)) => [.blk b0_0 [.pointer (some ⟨b0_1, 0, none⟩), .int .i64 o3.1.f_at, vB o3.1.f_look.f_Byte, .bool o3.1.f_look.f_GE, .bool o3.1.f_look.f_Start, vB o3.1.f_look.f_Light, vB o3.1.f_look.f_Color, .bool o3.1.f_laid] 123, .blk b0_1 [.int .i64 s.1, .int .i64 s.2.1, v0_2, .int .i64 s.2.2.2] 66, .own v0_2 44 k_api_Cell s.2.2.1, .blk b2 [vB a1.f_Kind, .int .i64 a1.f_Addr, vB a1.f_Byte, .bool a1.f_GE, v1_0, v1_1] 97, .blk b1 [.pointer (some ⟨b0_0, 0, none⟩)] 121, .ro (kSl k_api_Pair) [v1_0] a1.f_Pairs, .ro (kSl kB) [v1_1] a1.f_Data, .blk x11.1 [.int .i64 o10.1, .int .i64 o10.2.1] 23, .blk x11.2.1 [.int .i64 o10.2.2.1] 3, .blk x11.2.2 [.int .i64 o10.2.2.2] 3])) (L2 := (fun (s : Unit) (x : (Unit) × (Unit)) => [])) (rv := fun _ _ => .tuple #[]) (cap := [.pointer (some ⟨x11.1, 0, none⟩), .pointer (some ⟨x11.2.1, 0, none⟩), .pointer (some ⟨x11.2.2, 0, none⟩)]) hrn (.t .z) fok_101 (fun fn16 T14 D15 b13 as19 bd19 h18 h19 h17 => ?_) (fun s50 x51 D52 => ?_) (fun _ _ _ => cStuck)
    · refine con (args := [.func (.yield b13) #[] #[], .pointer (some ⟨x11.1, 0, none⟩), .pointer (some ⟨x11.2.1, 0, none⟩), .pointer (some ⟨x11.2.2, 0, none⟩)]) Try.func101 rfl 35 rfl (.c (.c (.c (.c .n)))) rfl fun c hD hrn => ?_
      refine cSeq ?_
      refine cRegion ?_
      refine lRd (dLoadA (us := [.int .i64 o10.1, .int .i64 o10.2.1]) (.s (.s (.s (.s (.s (.s (.s (.s .z)))))))) agg_23 siz_23 rfl (.t (.s .z)) rfl) rfl rfl ?_
      refine lCall fok_24 (.c (.t .z) .n) (addr_Cells_c (⟨o10.1, o10.2.1⟩ : api_Size)) .n rfl rfl fun o20 x21 h22 => ?_
      refine lRd (dAssign (.t .z)) rfl rfl ?_
      refine lKeep (.k (.d (.d (.k (.k (.k (.k .n))))))) ?_
      refine lNil ?_
      refine xCode ?_
      refine cSeq ?_
      refine cSeq ?_
      refine cJoin (S := Bool) (X := Unit) (fun (s : Bool) (x : Unit) => [(24, .bool s), (0, .func (.yield b13) #[] #[]), (1, .pointer (some ⟨x11.1, 0, none⟩)), (2, .pointer (some ⟨x11.2.1, 0, none⟩)), (3, .pointer (some ⟨x11.2.2, 0, none⟩))]) (fun (s : Bool) (x : Unit) => [.obj b13 (rc fn16 T14 [29] as19 bd19 D15 .ready none), .blk b0_0 [.pointer (some ⟨b0_1, 0, none⟩), .int .i64 o3.1.f_at, vB o3.1.f_look.f_Byte, .bool o3.1.f_look.f_GE, .bool o3.1.f_look.f_Start, vB o3.1.f_look.f_Light, vB o3.1.f_look.f_Color, .bool o3.1.f_laid] 123, .blk b0_1 [.int .i64 o3.1.f_p.f_size.f_Rows, .int .i64 o3.1.f_p.f_size.f_Cols, v0_2, .int .i64 o3.1.f_p.f_cursor] 66, .own v0_2 44 k_api_Cell o3.1.f_p.f_cells, .blk b2 [vB a1.f_Kind, .int .i64 a1.f_Addr, vB a1.f_Byte, .bool a1.f_GE, v1_0, v1_1] 97, .blk b1 [.pointer (some ⟨b0_0, 0, none⟩)] 121, .ro (kSl k_api_Pair) [v1_0] a1.f_Pairs, .ro (kSl kB) [v1_1] a1.f_Data, .blk x11.1 [.int .i64 o10.1, .int .i64 o10.2.1] 23, .blk x11.2.1 [.int .i64 o10.2.2.1] 3, .blk x11.2.2 [.int .i64 o10.2.2.2] 3]) ?_ (fun s26 x27 => ?_)
      · refine cRegion ?_
        refine lRd (dLoad (.s (.s (.s (.s (.s (.s (.s (.s (.s .z))))))))) agg_3 (.t (.s (.s (.s .z)))) rfl) rfl rfl ?_
        refine lRd (dLt (.t .z) (.c rfl)) rfl rfl ?_
        refine lRd (dMove (.t .z)) rfl rfl ?_
        refine lCase (fun h23 => ?_) (fun h23 => ?_)
        · refine lPass rfl .z (nbF (decide_eq_true h23)) rfl ?_
          refine lPass rfl .z (nbF (decide_eq_true h23)) rfl ?_
          refine lPass rfl .z (nbF (decide_eq_true h23)) rfl ?_
          refine lRd (dPickT (.t .z) (decide_eq_true h23) (.c rfl)) rfl rfl ?_
          refine lRd (dMove (.t .z)) rfl rfl ?_
          refine lPass rfl .z (nbF rfl) rfl ?_
          refine lPass rfl .z (nbF rfl) rfl ?_
          refine lRd (dPickT (.t .z) rfl (.c rfl)) rfl rfl ?_
          refine lRd (dMove (.t .z)) rfl rfl ?_
          refine lPass rfl .z (nbF rfl) rfl ?_
          refine lPass rfl .z (nbF rfl) rfl ?_
          refine lPass rfl .z (nbF rfl) rfl ?_
          refine lRd (dPickT (.t .z) rfl (.c rfl)) rfl rfl ?_
          refine lKeep (.k (.d (.d (.d (.d (.d (.d (.d (.d (.k (.k (.k (.k .n))))))))))))) ?_
          refine lNil ?_
          exact xJoin true () (.c .z (.c (.s .z) (.c (.s (.s .z)) (.c (.s (.s (.s .z))) (.c (.s (.s (.s (.s .z)))) .n))))) (.c .z (.c .z (.c .z (.c .z (.c .z (.c .z (.c .z (.c .z (.c .z (.c .z (.c .z .nil)))))))))))
        · refine lRdG rfl .z (decide_eq_false h23) (dLoad (.s (.s (.s (.s (.s (.s (.s (.s (.s .z))))))))) agg_3 (.t (.s (.s (.s (.s (.s (.s .z))))))) rfl) rfl rfl ?_
          refine lRdG rfl (.s .z) (decide_eq_false h23) (dMove (.t (.s (.s (.s (.s .z)))))) rfl rfl ?_
          refine lRdG rfl (.s (.s .z)) (decide_eq_false h23) (dGe (.t (.s .z)) (.t .z)) rfl rfl ?_
          refine lRd (dPickF (.t (.s (.s (.s .z)))) (decide_eq_false h23) (.t .z)) rfl rfl ?_
          refine lRd (dMove (.t .z)) rfl rfl ?_
          refine lCase (fun h24 => ?_) (fun h24 => ?_)
          · refine lPass rfl .z (nbF (decide_eq_true h24)) rfl ?_
            refine lPass rfl .z (nbF (decide_eq_true h24)) rfl ?_
            refine lRd (dPickT (.t .z) (decide_eq_true h24) (.c rfl)) rfl rfl ?_
            refine lRd (dMove (.t .z)) rfl rfl ?_
            refine lPass rfl .z (nbF rfl) rfl ?_
            refine lPass rfl .z (nbF rfl) rfl ?_
            refine lPass rfl .z (nbF rfl) rfl ?_
            refine lRd (dPickT (.t .z) rfl (.c rfl)) rfl rfl ?_
            refine lKeep (.k (.d (.d (.d (.d (.d (.d (.d (.d (.d (.d (.d (.k (.k (.k (.k .n)))))))))))))))) ?_
            refine lNil ?_
            exact xJoin true () (.c .z (.c (.s .z) (.c (.s (.s .z)) (.c (.s (.s (.s .z))) (.c (.s (.s (.s (.s .z)))) .n))))) (.c .z (.c .z (.c .z (.c .z (.c .z (.c .z (.c .z (.c .z (.c .z (.c .z (.c .z .nil)))))))))))
          · refine lRdG rfl .z (decide_eq_false h24) (dLoad (.s (.s (.s (.s (.s (.s (.s (.s (.s (.s .z)))))))))) agg_3 (.t (.s (.s (.s (.s (.s (.s (.s (.s (.s (.s (.s (.s .z))))))))))))) rfl) rfl rfl ?_
            refine lRdG rfl (.s .z) (decide_eq_false h24) (dLt (.t .z) (.c rfl)) rfl rfl ?_
            refine lRd (dPickF (.t (.s (.s .z))) (decide_eq_false h24) (.t .z)) rfl rfl ?_
            refine lRd (dMove (.t .z)) rfl rfl ?_
            refine lCase (fun h25 => ?_) (fun h25 => ?_)
            · refine lPass rfl .z (nbF (decide_eq_true h25)) rfl ?_
              refine lPass rfl .z (nbF (decide_eq_true h25)) rfl ?_
              refine lPass rfl .z (nbF (decide_eq_true h25)) rfl ?_
              refine lRd (dPickT (.t .z) (decide_eq_true h25) (.c rfl)) rfl rfl ?_
              refine lKeep (.k (.d (.d (.d (.d (.d (.d (.d (.d (.d (.d (.d (.d (.d (.k (.k (.k (.k .n)))))))))))))))))) ?_
              refine lNil ?_
              exact xJoin true () (.c .z (.c (.s .z) (.c (.s (.s .z)) (.c (.s (.s (.s .z))) (.c (.s (.s (.s (.s .z)))) .n))))) (.c .z (.c .z (.c .z (.c .z (.c .z (.c .z (.c .z (.c .z (.c .z (.c .z (.c .z .nil)))))))))))
            · refine lRdG rfl .z (decide_eq_false h25) (dLoad (.s (.s (.s (.s (.s (.s (.s (.s (.s (.s .z)))))))))) agg_3 (.t (.s (.s (.s (.s (.s (.s (.s (.s (.s (.s (.s (.s (.s (.s (.s (.s .z))))))))))))))))) rfl) rfl rfl ?_
              refine lRdG rfl (.s .z) (decide_eq_false h25) (dMove (.t (.s (.s (.s (.s (.s (.s (.s (.s (.s (.s (.s (.s (.s .z))))))))))))))) rfl rfl ?_
              refine lRdG rfl (.s (.s .z)) (decide_eq_false h25) (dGe (.t (.s .z)) (.t .z)) rfl rfl ?_
              refine lRd (dPickF (.t (.s (.s (.s .z)))) (decide_eq_false h25) (.t .z)) rfl rfl ?_
              refine lKeep (.k (.d (.d (.d (.d (.d (.d (.d (.d (.d (.d (.d (.d (.d (.d (.d (.d (.k (.k (.k (.k .n))))))))))))))))))))) ?_
              refine lNil ?_
              exact xJoin (decide (o10.2.2.2 ≥ o20)) () (.c .z (.c (.s .z) (.c (.s (.s .z)) (.c (.s (.s (.s .z))) (.c (.s (.s (.s (.s .z)))) .n))))) (.c .z (.c .z (.c .z (.c .z (.c .z (.c .z (.c .z (.c .z (.c .z (.c .z (.c .z .nil)))))))))))
      · refine xCode ?_
        refine cCondB (.t .z) (fun h28 => ?_) (fun h28 => ?_)
        · refine cRet ?_
          exact rDone (rs := []) rfl .n hD ((), ()) rfl (.c .z (.c .z (.c .z (.c .z (.c .z (.c .z (.c .z (.c .z (.c .z (.c .z (.c .z .nil)))))))))))
        · refine cSkip ?_
          refine xCode ?_
          refine cSeq ?_
          refine cRegion ?_
          refine lRd (dLoad (.s (.s (.s (.s (.s (.s (.s (.s (.s .z))))))))) agg_3 (.t (.s (.s (.s .z)))) rfl) rfl rfl ?_
          refine lRd (dAssign (.t .z)) rfl rfl ?_
          refine lKeep (.k (.d (.d (.k (.k (.d (.k .n))))))) ?_
          refine lNil ?_
          refine xCode ?_
          refine cLoopR (S := Int × Int × Int × (List api_Cell) × Int) (X := Unit) (S' := Unit) (X' := Unit) (paint_brush_wipe_l1 K o10) (fun (s : Int × Int × Int × (List api_Cell) × Int) (x : Unit) => [(6, .int .i64 s.1), (0, .func (.yield b13) #[] #[]), (1, .pointer (some ⟨x11.1, 0, none⟩)), (3, .pointer (some ⟨x11.2.2, 0, none⟩))]) (fun (s : Int × Int × Int × (List api_Cell) × Int) (x : Unit) => [.obj b13 (rc fn16 T14 [29] as19 bd19 D15 .ready none), .blk b0_0 [.pointer (some ⟨b0_1, 0, none⟩), .int .i64 o3.1.f_at, vB o3.1.f_look.f_Byte, .bool o3.1.f_look.f_GE, .bool o3.1.f_look.f_Start, vB o3.1.f_look.f_Light, vB o3.1.f_look.f_Color, .bool o3.1.f_laid] 123, .blk b0_1 [.int .i64 s.2.1, .int .i64 s.2.2.1, v0_2, .int .i64 s.2.2.2.2] 66, .own v0_2 44 k_api_Cell s.2.2.2.1, .blk b2 [vB a1.f_Kind, .int .i64 a1.f_Addr, vB a1.f_Byte, .bool a1.f_GE, v1_0, v1_1] 97, .blk b1 [.pointer (some ⟨b0_0, 0, none⟩)] 121, .ro (kSl k_api_Pair) [v1_0] a1.f_Pairs, .ro (kSl kB) [v1_1] a1.f_Data, .blk x11.1 [.int .i64 o10.1, .int .i64 o10.2.1] 23, .blk x11.2.1 [.int .i64 o10.2.2.1] 3, .blk x11.2.2 [.int .i64 o10.2.2.2] 3]) (fun (_ : Unit) (_ : Unit) => []) (fun (_ : Unit) (_ : Unit) => []) K (o10.2.2.1, o3.1.f_p.f_size.f_Rows, o3.1.f_p.f_size.f_Cols, o3.1.f_p.f_cells, o3.1.f_p.f_cursor) () (.c .z (.c (.s .z) (.c (.s (.s .z)) (.c (.s (.s (.s .z))) .n)))) (.c .z (.c .z (.c .z (.c .z (.c .z (.c .z (.c .z (.c .z (.c .z (.c .z (.c .z .nil))))))))))) (fun _ => rfl) (fun n31 I32 h33 s29 x30 => ?_) (fun s48 x49 => ?_)
          · rw [paint_brush_wipe_l1]
            refine cSeq ?_
            refine cSeq ?_
            refine cRegion ?_
            refine lRd (dMove (.t (.s .z))) rfl rfl ?_
            refine lRd (dMove (.t (.s .z))) rfl rfl ?_
            refine lYield (X := (Unit) × (Unit)) (jc := .ret) (L1 := (fun (s : Int × Int × (List api_Cell) × Int) (x : (Unit) × (Unit)) => [.blk b0_1 [.int .i64 s.1, .int .i64 s.2.1, v0_2, .int .i64 s.2.2.2] 66, .own v0_2 44 k_api_Cell s.2.2.1, .blk b0_0 [.pointer (some ⟨b0_1, 0, none⟩), .int .i64 o3.1.f_at, vB o3.1.f_look.f_Byte, .bool o3.1.f_look.f_GE, .bool o3.1.f_look.f_Start, vB o3.1.f_look.f_Light, vB o3.1.f_look.f_Color, .bool o3.1.f_laid] 123, .blk b2 [vB a1.f_Kind, .int .i64 a1.f_Addr, vB a1.f_Byte, .bool a1.f_GE, v1_0, v1_1] 97, .blk b1 [.pointer (some ⟨b0_0, 0, none⟩)] 121, .ro (kSl k_api_Pair) [v1_0] a1.f_Pairs, .ro (kSl kB) [v1_1] a1.f_Data, .blk x11.1 [.int .i64 o10.1, .int .i64 o10.2.1] 23, .blk x11.2.1 [.int .i64 o10.2.2.1] 3, .blk x11.2.2 [.int .i64 o10.2.2.2] 3])) (L2 := (fun (s : Unit) (x : (Unit) × (Unit)) => [])) (.t (.s .z)) (.c (.t .z) .n) rfl (env1 h17 rfl rfl) .z rfl rfl (fun c hD hrn => ?_) (fun s41 x42 h43 => ?_) (fun _ _ _ => lStuck)
            · refine cEqC h18 ?_
              refine cRegion ?_
              refine lRd (dAssign (.t .z)) rfl rfl ?_
              refine lKeep (.k (.d (.d (.d (.k .n))))) ?_
              refine lNil ?_
              refine xBegin hrn Upd.z ?_
              refine cEqC h19 ?_
              refine cBlock ?_
              refine cSeq ?_
              refine cRegion ?_
              refine lRd (dLoad (.s (.s (.s (.s (.s .z))))) agg_121 (.t (.s .z)) rfl) rfl rfl ?_
              refine lRd (dNil (.t .z)) rfl rfl ?_
              refine lRd (dFld fld_123_0 (by decide) (.t .z) rfl) rfl rfl ?_
              refine lRd (dLoad (.s .z) agg_39 (.t .z) rfl) rfl rfl ?_
              refine lRd (dMove (.t (.s (.s (.s (.s .z)))))) rfl rfl ?_
              refine lCall fok_53 (.c (.t (.s .z)) (.c (.t .z) .n)) (field_Open_c K (⟨(⟨s29.2.1, s29.2.2.1⟩ : api_Size), s29.2.2.2.1, s29.2.2.2.2⟩ : plane_Plane) s29.1 b0_1 v0_2) (.c (.s (.s .z)) (.c (.s (.s .z)) .n)) rfl rfl fun o34 x35 h36 => ?_
              refine lKeep (.k (.d (.d (.d (.d (.d (.k (.k .n)))))))) ?_
              refine lNil ?_
              refine xCode ?_
              refine cCondB (.t .z) (fun h37 => ?_) (fun h37 => ?_)
              · refine cRegion ?_
                refine lRd (dLoad (.s (.s (.s (.s (.s .z))))) agg_121 (.t (.s (.s .z))) rfl) rfl rfl ?_
                refine lRd (dNil (.t .z)) rfl rfl ?_
                refine lRd (dFld fld_123_0 (by decide) (.t .z) rfl) rfl rfl ?_
                refine lRd (dLoad (.s (.s (.s .z))) agg_39 (.t .z) rfl) rfl rfl ?_
                refine lRd (dMove (.t (.s (.s (.s (.s (.s .z))))))) rfl rfl ?_
                refine lRd (dBuild (cs := [vB 0, .bool false, .bool false, vB 0, vB 0]) zer_44 rfl plc_44 .n rfl) rfl rfl ?_
                refine lCallN fok_54 (.c (.t (.s (.s .z))) (.c (.t (.s .z)) (.c (.t .z) .n))) (plane_Plane_Set_c (⟨(⟨s29.2.1, s29.2.2.1⟩ : api_Size), s29.2.2.2.1, s29.2.2.2.2⟩ : plane_Plane) s29.1 (⟨0, false, false, 0, 0⟩ : api_Cell) b0_1 v0_2) (.c .z (.c .z .n)) rfl fun o38 x39 h40 => ?_
                refine lKeep .n ?_
                refine lNil ?_
                refine xBlock ?_
                exact xRound1 (o38.1.f_size.f_Rows, o38.1.f_size.f_Cols, o38.1.f_cells, o38.1.f_cursor) ((), ()) (Upd.s (Upd.s Upd.z)) (.c (.s (.s .z)) (.c .z (.c .z (.c .z (.c .z (.c .z (.c .z (.c .z (.c .z (.c .z (.c .z .nil)))))))))))
              · refine cSkip ?_
                refine xBlock ?_
                exact xRound1 (s29.2.1, s29.2.2.1, s29.2.2.2.1, s29.2.2.2.2) ((), ()) (Upd.s (Upd.s Upd.z)) (.c (.s (.s .z)) (.c .z (.c .z (.c .z (.c .z (.c .z (.c .z (.c .z (.c .z (.c .z (.c .z .nil)))))))))))
            · refine lNil ?_
              refine xCode ?_
              refine cCondT (.t .z) rfl ?_
              refine cSkip ?_
              refine xCode ?_
              refine cBlock ?_
              refine cSeq ?_
              refine cRegion ?_
              refine lRd (dLoadA (us := [.int .i64 o10.1, .int .i64 o10.2.1]) (.s (.s (.s (.s (.s (.s (.s (.s .z)))))))) agg_23 siz_23 rfl (.t (.s (.s (.s (.s (.s .z)))))) rfl) rfl rfl ?_
              refine lRd (dMove (.t (.s (.s (.s (.s .z)))))) rfl rfl ?_
              refine lCall fok_74 (.c (.t (.s .z)) (.c (.t .z) (.c (.c rfl) .n))) (addr_Move_c (⟨o10.1, o10.2.1⟩ : api_Size) s29.1 1) .n rfl rfl fun o44 x45 h46 => ?_
              refine lRdK (dAssign (.t .z)) (.k (.k (.k (.k (.k (.k (.d (Keep.refl _)))))))) rfl rfl ?_
              refine lNil ?_
              refine xCode ?_
              refine cSeq ?_
              refine cRegion ?_
              refine lRd (dMove (.t .z)) rfl rfl ?_
              refine lRd (dLoad (.s (.s (.s (.s (.s (.s (.s (.s (.s (.s .z)))))))))) agg_3 (.t (.s (.s (.s (.s (.s (.s (.s (.s (.s (.s .z))))))))))) rfl) rfl rfl ?_
              refine lRd (dEq (.t (.s .z)) (.t .z)) rfl rfl ?_
              refine lNil ?_
              refine xCode ?_
              refine cCond (.t .z) (fun h47 => ?_) (fun h47 => ?_)
              · refine cRet ?_
                refine rInner ?_
                exact rDone (rs := []) rfl .n hD ((), ()) rfl (.c .z (.c (.s (.s .z)) (.c .z (.c .z (.c .z (.c .z (.c .z (.c .z (.c .z (.c .z (.c .z .nil)))))))))))
              · refine cSkip ?_
                refine xBlock ?_
                exact xRound h33 (o44, s41.1, s41.2.1, s41.2.2.1, s41.2.2.2) () (.c (.s (.s (.s .z))) (.c (.s (.s (.s (.s (.s (.s (.s (.s (.s (.s .z)))))))))) (.c (.s (.s (.s (.s (.s (.s (.s (.s (.s (.s (.s .z))))))))))) (.c (.s (.s (.s (.s (.s (.s (.s (.s (.s (.s (.s (.s .z)))))))))))) .n)))) (.c .z (.c (.s (.s .z)) (.c .z (.c .z (.c .z (.c .z (.c .z (.c .z (.c .z (.c .z (.c .z .nil)))))))))))
          · exact fun out hm => by cases hm
    · refine xBlock ?_
      refine xCode ?_
      refine cSeq ?_
      refine cRegion ?_
      refine lRdK (dAssign (.c rfl)) (.k (.d (Keep.refl _))) rfl rfl ?_
      refine lKeep (.k .n) ?_
      refine lNil ?_
      refine xCode ?_
      refine cRet ?_
      refine rLeave (congrArg (List.cons _) hD) ?_
      refine lvMark Upd.z (by simp) ?_
      exact lvRet (rs := [.tmp 4]) rfl (.t .z .n) () rfl (.c (.s .z) (.c (.s .z) (.c (.s .z) .nil)))

-- (*greenscreen/paint.brush).do
def paint_brush_do_m (K : Nat) (a0 : paint_brush) (a1 : api_Order) : Option (paint_brush × Int) := (if a1.f_Kind = (0 : UInt8) then (paint_brush_data_m K a0 a1).bind fun o3 => (if a1.f_Kind = (8 : UInt8) then some ((⟨o3.1.f_p, o3.1.f_at, o3.1.f_look, true⟩ : paint_brush), o3.2) else some ((⟨o3.1.f_p, o3.1.f_at, o3.1.f_look, (decide ((a1.f_Data.length : Int) > 0))⟩ : paint_brush), o3.2)) else (if a1.f_Kind = (8 : UInt8) then (paint_brush_special_m a0 a1).bind fun o8 => some ((⟨o8.1.f_p, o8.1.f_at, o8.1.f_look, true⟩ : paint_brush), o8.2) else (if a1.f_Kind = (17 : UInt8) then (paint_brush_jump_m a0 a1).bind fun o12 => some ((⟨o12.1.f_p, o12.1.f_at, o12.1.f_look, false⟩ : paint_brush), o12.2) else ((if a1.f_Kind = (29 : UInt8) then some (decide (a1.f_Kind = (29 : UInt8))) else some (decide (a1.f_Kind = (41 : UInt8))))).bind fun (s16 : Bool) => (if s16 = true then (paint_brush_start_m K a0 a1).bind fun o19 => some ((⟨o19.1.f_p, o19.1.f_at, o19.1.f_look, false⟩ : paint_brush), o19.2) else (if a1.f_Kind = (40 : UInt8) then (paint_brush_dress_m K a0 a1).bind fun o23 => some ((⟨o23.1.f_p, o23.1.f_at, o23.1.f_look, false⟩ : paint_brush), o23.2) else (if a1.f_Kind = (44 : UInt8) then (paint_brush_modify_m K a0 a1).bind fun o27 => some ((⟨o27.1.f_p, o27.1.f_at, o27.1.f_look, false⟩ : paint_brush), o27.2) else (if a1.f_Kind = (19 : UInt8) then (paint_brush_cursor_m a0 a1).bind fun o31 => some ((⟨o31.1.f_p, o31.1.f_at, o31.1.f_look, false⟩ : paint_brush), o31.2) else (if a1.f_Kind = (5 : UInt8) then (paint_brush_tab_m K a0 a1).bind fun o35 => some ((⟨o35.1.f_p, o35.1.f_at, o35.1.f_look, false⟩ : paint_brush), o35.2) else (if a1.f_Kind = (60 : UInt8) then (paint_brush_repeat_m K a0 a1).bind fun o39 => some ((⟨o39.1.f_p, o39.1.f_at, o39.1.f_look, false⟩ : paint_brush), o39.2) else (if a1.f_Kind = (18 : UInt8) then (paint_brush_wipe_m K a0 a1).bind fun o43 => some ((⟨o43.1.f_p, o43.1.f_at, o43.1.f_look, false⟩ : paint_brush), o43.2) else some (a0, 31)))))))))))
theorem paint_brush_do_c (K : Nat) (a0 : paint_brush) (a1 : api_Order) (b0_0 : Nat) (b0_1 : Nat) (v0_2 : Value) (v1_0 : Value) (v1_1 : Value) : Con Try.prog 72 #[.pointer (some ⟨b0_0, 0, none⟩), .agg #[vB a1.f_Kind, .int .i64 a1.f_Addr, vB a1.f_Byte, .bool a1.f_GE, v1_0, v1_1]] [.blk b0_0 [.pointer (some ⟨b0_1, 0, none⟩), .int .i64 a0.f_at, vB a0.f_look.f_Byte, .bool a0.f_look.f_GE, .bool a0.f_look.f_Start, vB a0.f_look.f_Light, vB a0.f_look.f_Color, .bool a0.f_laid] 123, .blk b0_1 [.int .i64 a0.f_p.f_size.f_Rows, .int .i64 a0.f_p.f_size.f_Cols, v0_2, .int .i64 a0.f_p.f_cursor] 66, .own v0_2 44 k_api_Cell a0.f_p.f_cells, .ro (kSl k_api_Pair) [v1_0] a1.f_Pairs, .ro (kSl kB) [v1_1] a1.f_Data] (paint_brush_do_m K a0 a1) (fun (o : paint_brush × Int) (x : Unit) => .int .i64 o.2) (fun (o : paint_brush × Int) (x : Unit) => [.blk b0_0 [.pointer (some ⟨b0_1, 0, none⟩), .int .i64 o.1.f_at, vB o.1.f_look.f_Byte, .bool o.1.f_look.f_GE, .bool o.1.f_look.f_Start, vB o.1.f_look.f_Light, vB o.1.f_look.f_Color, .bool o.1.f_laid] 123, .blk b0_1 [.int .i64 o.1.f_p.f_size.f_Rows, .int .i64 o.1.f_p.f_size.f_Cols, v0_2, .int .i64 o.1.f_p.f_cursor] 66, .own v0_2 44 k_api_Cell o.1.f_p.f_cells]) := by
  unfold paint_brush_do_m
  refine con (args := [.pointer (some ⟨b0_0, 0, none⟩), .agg #[vB a1.f_Kind, .int .i64 a1.f_Addr, vB a1.f_Byte, .bool a1.f_GE, v1_0, v1_1]]) Try.func72 rfl 52 rfl (.c (.c .n)) rfl fun c hD hrn => ?_
  refine cSeq ?_
  refine cRegion ?_
  refine lCh (cBox (cs := [vB a1.f_Kind, .int .i64 a1.f_Addr, vB a1.f_Byte, .bool a1.f_GE, v1_0, v1_1]) (.t (.s .z)) rfl) rfl rfl fun b1 => ?_
  refine lRd (dAssign (.c rfl)) rfl rfl ?_
  refine lKeep (.k (.k (.k .n))) ?_
  refine lNil ?_
  refine xCode ?_
  refine cSeq ?_
  refine cRegion ?_
  refine lRd (dAssign (.c rfl)) rfl rfl ?_
  refine lNil ?_
  refine xCode ?_
  refine cSeq ?_
  refine cSeq ?_
  refine cRegion ?_
  refine lRd (dFld fld_97_0 (by decide) (.t (.s (.s .z))) rfl) rfl rfl ?_
  refine lRd (dLoad .z agg_5 (.t .z) rfl) rfl rfl ?_
  refine lKeep (.k (.d (.k (.k (.k (.k .n)))))) ?_
  refine lNil ?_
  refine xCode ?_
  refine cBlock ?_
  refine cSeq ?_
  refine cRegion ?_
  refine lRd (dEqB (.t .z) (.c (v' := vB 0) rfl)) rfl rfl ?_
  refine lRd (dAssign (.t .z)) rfl rfl ?_
  refine lKeep (.k (.d (.k (.k (.k (.k (.k .n))))))) ?_
  refine lNil ?_
  refine xCode ?_
  refine cCond (.t .z) (fun h2 => ?_) (fun h2 => ?_)
  · refine cRegion ?_
    refine lRdK (dAssign .f) (.k (.k (.d (Keep.refl _)))) rfl rfl ?_
    refine lKeep (.k (.d (.d (.k (.k (.k .n)))))) ?_
    refine lNil ?_
    refine xBlock ?_
    refine xCode ?_
    refine cSeq ?_
    refine cRegion ?_
    refine lRd (dMove (.t .z)) rfl rfl ?_
    refine lRd (dMove (.t (.s (.s (.s (.s .z)))))) rfl rfl ?_
    refine lRd (dLoadA (us := [vB a1.f_Kind, .int .i64 a1.f_Addr, vB a1.f_Byte, .bool a1.f_GE, v1_0, v1_1]) .z agg_97 siz_97 rfl (.t (.s (.s (.s (.s .z))))) rfl) rfl rfl ?_
    refine lCallV (vs := [.pointer (some ⟨b0_0, 0, none⟩), .agg #[vB a1.f_Kind, .int .i64 a1.f_Addr, vB a1.f_Byte, .bool a1.f_GE, v1_0, v1_1]]) (cap := []) (.t (.s (.s .z))) fok_81 (.c (.t (.s .z)) (.c (.t .z) .n)) (paint_brush_data_c K a0 a1 b0_0 b0_1 v0_2 v1_0 v1_1) (.c (.s .z) (.c (.s .z) (.c (.s .z) (.r (.s .z) (.r (.s (.s .z)) .n))))) rfl rfl fun o3 x4 h5 => ?_
    refine lRd (dAssign (.t .z)) rfl rfl ?_
    refine lKeep (.k (.d (.d (.d (.d (.d (.k (.k (.k .n))))))))) ?_
    refine lNil ?_
    refine xCode ?_
    refine cSeq ?_
    refine cRegion ?_
    refine lRd (dMove (.t (.s (.s (.s .z))))) rfl rfl ?_
    refine lRd (dFld fld_97_0 (by decide) (.t (.s (.s (.s .z)))) rfl) rfl rfl ?_
    refine lRd (dLoad (.s (.s (.s .z))) agg_5 (.t .z) rfl) rfl rfl ?_
    refine lRd (dEqB (.t .z) (.c (v' := vB 8) rfl)) rfl rfl ?_
    refine lRd (dMove (.t .z)) rfl rfl ?_
    refine lCase (fun h6 => ?_) (fun h6 => ?_)
    · refine lPass rfl .z (nbF (decide_eq_true h6)) rfl ?_
      refine lPass rfl .z (nbF (decide_eq_true h6)) rfl ?_
      refine lPass rfl .z (nbF (decide_eq_true h6)) rfl ?_
      refine lPassU rfl .z (nbF (decide_eq_true h6)) rfl rfl ?_
      refine lPass rfl .z nbU rfl ?_
      refine lPass rfl .z nbU rfl ?_
      refine lPass rfl .z nbU rfl ?_
      refine lPass rfl .z nbU rfl ?_
      refine lPass rfl (.s .z) (nbF (decide_eq_true h6)) rfl ?_
      refine lRd (dPickT (.t (.s .z)) (decide_eq_true h6) (.c rfl)) rfl rfl ?_
      refine lRd (dNil (.t (.s (.s (.s (.s (.s (.s .z)))))))) rfl rfl ?_
      refine lRd (dFld fld_123_3 (by decide) (.t .z) rfl) rfl rfl ?_
      refine lChU (uStore .z siz_4 rfl (.s (.s (.s (.s (.s (.s (.s .z))))))) (.t .z) (.t (.s (.s .z)))) ?_
      refine lKeep (.d (.d (.d (.d (.d (.d (.d (.d (.d (.k (.k .n))))))))))) ?_
      refine lNil ?_
      refine xCode ?_
      refine cSeq ?_
      refine cRegion ?_
      refine lRd (dMove (.t .z)) rfl rfl ?_
      refine lRdK (dAssign (.t .z)) (.k (.k (.d (Keep.refl _)))) rfl rfl ?_
      refine lKeep (.k .n) ?_
      refine lNil ?_
      refine xCode ?_
      refine cRet ?_
      refine rLeave hD ?_
      exact lvRet (rs := [.tmp 4]) rfl (.t .z .n) () rfl (.c .z (.c .z (.c .z .nil)))
    · refine lRdG rfl .z (decide_eq_false h6) (dFld fld_97_0 (by decide) (.t (.s (.s (.s (.s (.s (.s (.s .z)))))))) rfl) rfl rfl ?_
      refine lRdG rfl (.s .z) (decide_eq_false h6) (dLoad (.s (.s (.s .z))) agg_5 (.t .z) rfl) rfl rfl ?_
      refine lRdG rfl (.s (.s .z)) (decide_eq_false h6) (dEqB (.t .z) (.c (v' := vB 0) rfl)) rfl rfl ?_
      refine lRdG rfl (.s (.s (.s .z))) (decide_eq_false h6) (dMove (.t .z)) rfl rfl ?_
      refine lRdG rfl .z (decide_eq_true h2) (dFld fld_97_5 (by decide) (.t (.s (.s (.s (.s (.s (.s (.s (.s (.s (.s (.s .z)))))))))))) rfl) rfl rfl ?_
      refine lRdG rfl (.s .z) (decide_eq_true h2) (dLoad (.s (.s (.s .z))) agg_34 (.t .z) rfl) rfl rfl ?_
      refine lRdG rfl (.s (.s .z)) (decide_eq_true h2) (dLen (at_ := #[34]) (slRo (.s (.s (.s (.s (.s .z)))))) rfl und_34 (.t .z)) rfl rfl ?_
      refine lRdG rfl (.s (.s (.s .z))) (decide_eq_true h2) (dGt (.t .z) (.c rfl)) rfl rfl ?_
      refine lRdG rfl (.s (.s (.s (.s (.s (.s (.s (.s .z)))))))) (decide_eq_false h6) (dPickT (.t (.s (.s (.s (.s .z))))) (decide_eq_true h2) (.t .z)) rfl rfl ?_
      refine lRd (dPickF (.t (.s (.s (.s (.s (.s (.s (.s (.s (.s .z)))))))))) (decide_eq_false h6) (.t .z)) rfl rfl ?_
      refine lRd (dNil (.t (.s (.s (.s (.s (.s (.s (.s (.s (.s (.s (.s (.s (.s (.s .z)))))))))))))))) rfl rfl ?_
      refine lRd (dFld fld_123_3 (by decide) (.t .z) rfl) rfl rfl ?_
      refine lChU (uStore .z siz_4 rfl (.s (.s (.s (.s (.s (.s (.s .z))))))) (.t .z) (.t (.s (.s .z)))) ?_
      refine lKeep (.d (.d (.d (.d (.d (.d (.d (.d (.d (.d (.d (.d (.d (.d (.d (.d (.d (.k (.k .n))))))))))))))))))) ?_
      refine lNil ?_
      refine xCode ?_
      refine cSeq ?_
      refine cRegion ?_
      refine lRd (dMove (.t .z)) rfl rfl ?_
      refine lRdK (dAssign (.t .z)) (.k (.k (.d (Keep.refl _)))) rfl rfl ?_
      refine lKeep (.k .n) ?_
      refine lNil ?_
      refine xCode ?_
      refine cRet ?_
      refine rLeave hD ?_
      exact lvRet (rs := [.tmp 4]) rfl (.t .z .n) () rfl (.c .z (.c .z (.c .z .nil)))
  · refine cSeq ?_
    refine cRegion ?_
    refine lRd (dEqB (.t (.s .z)) (.c (v' := vB 8) rfl)) rfl rfl ?_
    refine lRd (dAssign (.t .z)) rfl rfl ?_
    refine lKeep (.k (.d (.d (.k (.k (.k (.k (.k .n)))))))) ?_
    refine lNil ?_
    refine xCode ?_
    refine cCond (.t .z) (fun h7 => ?_) (fun h7 => ?_)
    · refine cRegion ?_
      refine lRdK (dAssign .f) (.k (.k (.d (Keep.refl _)))) rfl rfl ?_
      refine lKeep (.k (.d (.d (.k (.k (.k .n)))))) ?_
      refine lNil ?_
      refine xBlock ?_
      refine xCode ?_
      refine cSeq ?_
      refine cRegion ?_
      refine lRd (dMove (.t .z)) rfl rfl ?_
      refine lRd (dMove (.t (.s (.s (.s (.s .z)))))) rfl rfl ?_
      refine lRd (dLoadA (us := [vB a1.f_Kind, .int .i64 a1.f_Addr, vB a1.f_Byte, .bool a1.f_GE, v1_0, v1_1]) .z agg_97 siz_97 rfl (.t (.s (.s (.s (.s .z))))) rfl) rfl rfl ?_
      refine lCallV (vs := [.pointer (some ⟨b0_0, 0, none⟩), .agg #[vB a1.f_Kind, .int .i64 a1.f_Addr, vB a1.f_Byte, .bool a1.f_GE, v1_0, v1_1]]) (cap := []) (.t (.s (.s .z))) fok_82 (.c (.t (.s .z)) (.c (.t .z) .n)) (paint_brush_special_c a0 a1 b0_0 b0_1 v0_2 v1_0 v1_1) (.c (.s .z) (.c (.s .z) (.c (.s .z) (.r (.s .z) (.r (.s (.s .z)) .n))))) rfl rfl fun o8 x9 h10 => ?_
      refine lRd (dAssign (.t .z)) rfl rfl ?_
      refine lKeep (.k (.d (.d (.d (.d (.d (.k (.k (.k .n))))))))) ?_
      refine lNil ?_
      refine xCode ?_
      refine cSeq ?_
      refine cRegion ?_
      refine lRd (dMove (.t (.s (.s (.s .z))))) rfl rfl ?_
      refine lRd (dFld fld_97_0 (by decide) (.t (.s (.s (.s .z)))) rfl) rfl rfl ?_
      refine lRd (dLoad (.s (.s (.s .z))) agg_5 (.t .z) rfl) rfl rfl ?_
      refine lRd (dEqB (.t .z) (.c (v' := vB 8) rfl)) rfl rfl ?_
      refine lRd (dMove (.t .z)) rfl rfl ?_
      refine lPass rfl .z (nbF (decide_eq_true h7)) rfl ?_
      refine lPass rfl .z (nbF (decide_eq_true h7)) rfl ?_
      refine lPass rfl .z (nbF (decide_eq_true h7)) rfl ?_
      refine lPassU rfl .z (nbF (decide_eq_true h7)) rfl rfl ?_
      refine lPass rfl .z nbU rfl ?_
      refine lPass rfl .z nbU rfl ?_
      refine lPass rfl .z nbU rfl ?_
      refine lPass rfl .z nbU rfl ?_
      refine lPass rfl (.s .z) (nbF (decide_eq_true h7)) rfl ?_
      refine lRd (dPickT (.t (.s .z)) (decide_eq_true h7) (.c rfl)) rfl rfl ?_
      refine lRd (dNil (.t (.s (.s (.s (.s (.s (.s .z)))))))) rfl rfl ?_
      refine lRd (dFld fld_123_3 (by decide) (.t .z) rfl) rfl rfl ?_
      refine lChU (uStore .z siz_4 rfl (.s (.s (.s (.s (.s (.s (.s .z))))))) (.t .z) (.t (.s (.s .z)))) ?_
      refine lKeep (.d (.d (.d (.d (.d (.d (.d (.d (.d (.k (.k .n))))))))))) ?_
      refine lNil ?_
      refine xCode ?_
      refine cSeq ?_
      refine cRegion ?_
      refine lRd (dMove (.t .z)) rfl rfl ?_
      refine lRdK (dAssign (.t .z)) (.k (.k (.d (Keep.refl _)))) rfl rfl ?_
      refine lKeep (.k .n) ?_
      refine lNil ?_
      refine xCode ?_
      refine cRet ?_
      refine rLeave hD ?_
      exact lvRet (rs := [.tmp 4]) rfl (.t .z .n) () rfl (.c .z (.c .z (.c .z .nil)))
    · refine cSeq ?_
      refine cRegion ?_
      refine lRd (dEqB (.t (.s .z)) (.c (v' := vB 17) rfl)) rfl rfl ?_
      refine lRd (dAssign (.t .z)) rfl rfl ?_
      refine lKeep (.k (.d (.d (.k (.k (.k (.k (.k .n)))))))) ?_
      refine lNil ?_
      refine xCode ?_
      refine cCond (.t .z) (fun h11 => ?_) (fun h11 => ?_)
      · refine cRegion ?_
        refine lRdK (dAssign .f) (.k (.k (.d (Keep.refl _)))) rfl rfl ?_
        refine lKeep (.k (.d (.d (.k (.k (.k .n)))))) ?_
        refine lNil ?_
        refine xBlock ?_
        refine xCode ?_
        refine cSeq ?_
        refine cRegion ?_
        refine lRd (dMove (.t .z)) rfl rfl ?_
        refine lRd (dMove (.t (.s (.s (.s (.s .z)))))) rfl rfl ?_
        refine lRd (dLoadA (us := [vB a1.f_Kind, .int .i64 a1.f_Addr, vB a1.f_Byte, .bool a1.f_GE, v1_0, v1_1]) .z agg_97 siz_97 rfl (.t (.s (.s (.s (.s .z))))) rfl) rfl rfl ?_
        refine lCallV (vs := [.pointer (some ⟨b0_0, 0, none⟩), .agg #[vB a1.f_Kind, .int .i64 a1.f_Addr, vB a1.f_Byte, .bool a1.f_GE, v1_0, v1_1]]) (cap := []) (.t (.s (.s .z))) fok_83 (.c (.t (.s .z)) (.c (.t .z) .n)) (paint_brush_jump_c a0 a1 b0_0 b0_1 v0_2 v1_0 v1_1) (.c (.s .z) (.c (.s .z) (.c (.s .z) (.r (.s .z) (.r (.s (.s .z)) .n))))) rfl rfl fun o12 x13 h14 => ?_
        refine lRd (dAssign (.t .z)) rfl rfl ?_
        refine lKeep (.k (.d (.d (.d (.d (.d (.k (.k (.k .n))))))))) ?_
        refine lNil ?_
        refine xCode ?_
        refine cSeq ?_
        refine cRegion ?_
        refine lRd (dMove (.t (.s (.s (.s .z))))) rfl rfl ?_
        refine lRd (dFld fld_97_0 (by decide) (.t (.s (.s (.s .z)))) rfl) rfl rfl ?_
        refine lRd (dLoad (.s (.s (.s .z))) agg_5 (.t .z) rfl) rfl rfl ?_
        refine lRd (dEqB (.t .z) (.c (v' := vB 8) rfl)) rfl rfl ?_
        refine lRd (dMove (.t .z)) rfl rfl ?_
        refine lRdG rfl .z (decide_eq_false h7) (dFld fld_97_0 (by decide) (.t (.s (.s (.s (.s (.s (.s (.s .z)))))))) rfl) rfl rfl ?_
        refine lRdG rfl (.s .z) (decide_eq_false h7) (dLoad (.s (.s (.s .z))) agg_5 (.t .z) rfl) rfl rfl ?_
        refine lRdG rfl (.s (.s .z)) (decide_eq_false h7) (dEqB (.t .z) (.c (v' := vB 0) rfl)) rfl rfl ?_
        refine lRdG rfl (.s (.s (.s .z))) (decide_eq_false h7) (dMove (.t .z)) rfl rfl ?_
        refine lPass rfl .z (nbT (decide_eq_false h2)) rfl ?_
        refine lPass rfl .z (nbT (decide_eq_false h2)) rfl ?_
        refine lPass rfl .z (nbT (decide_eq_false h2)) rfl ?_
        refine lPass rfl .z (nbT (decide_eq_false h2)) rfl ?_
        refine lRdG rfl (.s (.s (.s (.s .z)))) (decide_eq_false h7) (dPickF (.t .z) (decide_eq_false h2) (.c rfl)) rfl rfl ?_
        refine lRd (dPickF (.t (.s (.s (.s (.s (.s .z)))))) (decide_eq_false h7) (.t .z)) rfl rfl ?_
        refine lRd (dNil (.t (.s (.s (.s (.s (.s (.s (.s (.s (.s (.s .z)))))))))))) rfl rfl ?_
        refine lRd (dFld fld_123_3 (by decide) (.t .z) rfl) rfl rfl ?_
        refine lChU (uStore .z siz_4 rfl (.s (.s (.s (.s (.s (.s (.s .z))))))) (.t .z) (.t (.s (.s .z)))) ?_
        refine lKeep (.d (.d (.d (.d (.d (.d (.d (.d (.d (.d (.d (.d (.d (.k (.k .n))))))))))))))) ?_
        refine lNil ?_
        refine xCode ?_
        refine cSeq ?_
        refine cRegion ?_
        refine lRd (dMove (.t .z)) rfl rfl ?_
        refine lRdK (dAssign (.t .z)) (.k (.k (.d (Keep.refl _)))) rfl rfl ?_
        refine lKeep (.k .n) ?_
        refine lNil ?_
        refine xCode ?_
        refine cRet ?_
        refine rLeave hD ?_
        exact lvRet (rs := [.tmp 4]) rfl (.t .z .n) () rfl (.c .z (.c .z (.c .z .nil)))
      · refine cSeq ?_
        refine cSeq ?_
        refine cRegion ?_
        refine lRd (dEqB (.t (.s .z)) (.c (v' := vB 29) rfl)) rfl rfl ?_
        refine lRd (dAssign (.t .z)) rfl rfl ?_
        refine lKeep (.k (.d (.d (.k (.k (.k (.k (.k .n)))))))) ?_
        refine lNil ?_
        refine xCode ?_
        refine cJoin (S := Bool) (X := Unit) (fun (s : Bool) (x : Unit) => [(15, .bool s), (8, vB a1.f_Kind), (5, .nilFunc), (4, .int .i64 0), (3, .pointer (some ⟨b1, 0, none⟩)), (0, .pointer (some ⟨b0_0, 0, none⟩))]) (fun (s : Bool) (x : Unit) => [.blk b1 [vB a1.f_Kind, .int .i64 a1.f_Addr, vB a1.f_Byte, .bool a1.f_GE, v1_0, v1_1] 97, .blk b0_0 [.pointer (some ⟨b0_1, 0, none⟩), .int .i64 a0.f_at, vB a0.f_look.f_Byte, .bool a0.f_look.f_GE, .bool a0.f_look.f_Start, vB a0.f_look.f_Light, vB a0.f_look.f_Color, .bool a0.f_laid] 123, .blk b0_1 [.int .i64 a0.f_p.f_size.f_Rows, .int .i64 a0.f_p.f_size.f_Cols, v0_2, .int .i64 a0.f_p.f_cursor] 66, .own v0_2 44 k_api_Cell a0.f_p.f_cells, .ro (kSl k_api_Pair) [v1_0] a1.f_Pairs, .ro (kSl kB) [v1_1] a1.f_Data]) ?_ (fun s16 x17 => ?_)
        · refine cCond (.t .z) (fun h15 => ?_) (fun h15 => ?_)
          · refine cSkip ?_
            exact xJoin (decide (a1.f_Kind = (29 : UInt8))) () (.c .z (.c (.s .z) (.c (.s (.s .z)) (.c (.s (.s (.s .z))) (.c (.s (.s (.s (.s .z)))) (.c (.s (.s (.s (.s (.s .z))))) .n)))))) (.c .z (.c .z (.c .z (.c .z (.c .z (.c .z .nil))))))
          · refine cRegion ?_
            refine lRd (dEqB (.t (.s .z)) (.c (v' := vB 41) rfl)) rfl rfl ?_
            refine lRdK (dAssign (.t .z)) (.k (.d (Keep.refl _))) rfl rfl ?_
            refine lKeep (.k (.d (.k (.k (.k (.k (.k .n))))))) ?_
            refine lNil ?_
            exact xJoin (decide (a1.f_Kind = (41 : UInt8))) () (.c .z (.c (.s .z) (.c (.s (.s .z)) (.c (.s (.s (.s .z))) (.c (.s (.s (.s (.s .z)))) (.c (.s (.s (.s (.s (.s .z))))) .n)))))) (.c .z (.c .z (.c .z (.c .z (.c .z (.c .z .nil))))))
        · refine xCode ?_
          refine cCondB (.t .z) (fun h18 => ?_) (fun h18 => ?_)
          · refine cRegion ?_
            refine lRdK (dAssign .f) (.k (.k (.d (Keep.refl _)))) rfl rfl ?_
            refine lKeep (.k (.d (.d (.k (.k (.k .n)))))) ?_
            refine lNil ?_
            refine xBlock ?_
            refine xCode ?_
            refine cSeq ?_
            refine cRegion ?_
            refine lRd (dMove (.t .z)) rfl rfl ?_
            refine lRd (dMove (.t (.s (.s (.s (.s .z)))))) rfl rfl ?_
            refine lRd (dLoadA (us := [vB a1.f_Kind, .int .i64 a1.f_Addr, vB a1.f_Byte, .bool a1.f_GE, v1_0, v1_1]) .z agg_97 siz_97 rfl (.t (.s (.s (.s (.s .z))))) rfl) rfl rfl ?_
            refine lCallV (vs := [.pointer (some ⟨b0_0, 0, none⟩), .agg #[vB a1.f_Kind, .int .i64 a1.f_Addr, vB a1.f_Byte, .bool a1.f_GE, v1_0, v1_1]]) (cap := []) (.t (.s (.s .z))) fok_84 (.c (.t (.s .z)) (.c (.t .z) .n)) (paint_brush_start_c K a0 a1 b0_0 b0_1 v0_2 v1_0 v1_1) (.c (.s .z) (.c (.s .z) (.c (.s .z) (.r (.s .z) (.r (.s (.s .z)) .n))))) rfl rfl fun o19 x20 h21 => ?_
            refine lRd (dAssign (.t .z)) rfl rfl ?_
            refine lKeep (.k (.d (.d (.d (.d (.d (.k (.k (.k .n))))))))) ?_
            refine lNil ?_
            refine xCode ?_
            refine cSeq ?_
            refine cRegion ?_
            refine lRd (dMove (.t (.s (.s (.s .z))))) rfl rfl ?_
            refine lRd (dFld fld_97_0 (by decide) (.t (.s (.s (.s .z)))) rfl) rfl rfl ?_
            refine lRd (dLoad (.s (.s (.s .z))) agg_5 (.t .z) rfl) rfl rfl ?_
            refine lRd (dEqB (.t .z) (.c (v' := vB 8) rfl)) rfl rfl ?_
            refine lRd (dMove (.t .z)) rfl rfl ?_
            refine lRdG rfl .z (decide_eq_false h7) (dFld fld_97_0 (by decide) (.t (.s (.s (.s (.s (.s (.s (.s .z)))))))) rfl) rfl rfl ?_
            refine lRdG rfl (.s .z) (decide_eq_false h7) (dLoad (.s (.s (.s .z))) agg_5 (.t .z) rfl) rfl rfl ?_
            refine lRdG rfl (.s (.s .z)) (decide_eq_false h7) (dEqB (.t .z) (.c (v' := vB 0) rfl)) rfl rfl ?_
            refine lRdG rfl (.s (.s (.s .z))) (decide_eq_false h7) (dMove (.t .z)) rfl rfl ?_
            refine lPass rfl .z (nbT (decide_eq_false h2)) rfl ?_
            refine lPass rfl .z (nbT (decide_eq_false h2)) rfl ?_
            refine lPass rfl .z (nbT (decide_eq_false h2)) rfl ?_
            refine lPass rfl .z (nbT (decide_eq_false h2)) rfl ?_
            refine lRdG rfl (.s (.s (.s (.s .z)))) (decide_eq_false h7) (dPickF (.t .z) (decide_eq_false h2) (.c rfl)) rfl rfl ?_
            refine lRd (dPickF (.t (.s (.s (.s (.s (.s .z)))))) (decide_eq_false h7) (.t .z)) rfl rfl ?_
            refine lRd (dNil (.t (.s (.s (.s (.s (.s (.s (.s (.s (.s (.s .z)))))))))))) rfl rfl ?_
            refine lRd (dFld fld_123_3 (by decide) (.t .z) rfl) rfl rfl ?_
            refine lChU (uStore .z siz_4 rfl (.s (.s (.s (.s (.s (.s (.s .z))))))) (.t .z) (.t (.s (.s .z)))) ?_
            refine lKeep (.d (.d (.d (.d (.d (.d (.d (.d (.d (.d (.d (.d (.d (.k (.k .n))))))))))))))) ?_
            refine lNil ?_
            refine xCode ?_
            refine cSeq ?_
            refine cRegion ?_
            refine lRd (dMove (.t .z)) rfl rfl ?_
            refine lRdK (dAssign (.t .z)) (.k (.k (.d (Keep.refl _)))) rfl rfl ?_
            refine lKeep (.k .n) ?_
            refine lNil ?_
            refine xCode ?_
            refine cRet ?_
            refine rLeave hD ?_
            exact lvRet (rs := [.tmp 4]) rfl (.t .z .n) () rfl (.c .z (.c .z (.c .z .nil)))
          · refine cSeq ?_
            refine cRegion ?_
            refine lRd (dEqB (.t (.s .z)) (.c (v' := vB 40) rfl)) rfl rfl ?_
            refine lRd (dAssign (.t .z)) rfl rfl ?_
            refine lKeep (.k (.d (.d (.k (.k (.k (.k (.k .n)))))))) ?_
            refine lNil ?_
            refine xCode ?_
            refine cCond (.t .z) (fun h22 => ?_) (fun h22 => ?_)
            · refine cRegion ?_
              refine lRdK (dAssign .f) (.k (.k (.d (Keep.refl _)))) rfl rfl ?_
              refine lKeep (.k (.d (.d (.k (.k (.k .n)))))) ?_
              refine lNil ?_
              refine xBlock ?_
              refine xCode ?_
              refine cSeq ?_
              refine cRegion ?_
              refine lRd (dMove (.t .z)) rfl rfl ?_
              refine lRd (dMove (.t (.s (.s (.s (.s .z)))))) rfl rfl ?_
              refine lRd (dLoadA (us := [vB a1.f_Kind, .int .i64 a1.f_Addr, vB a1.f_Byte, .bool a1.f_GE, v1_0, v1_1]) .z agg_97 siz_97 rfl (.t (.s (.s (.s (.s .z))))) rfl) rfl rfl ?_
              refine lCallV (vs := [.pointer (some ⟨b0_0, 0, none⟩), .agg #[vB a1.f_Kind, .int .i64 a1.f_Addr, vB a1.f_Byte, .bool a1.f_GE, v1_0, v1_1]]) (cap := []) (.t (.s (.s .z))) fok_85 (.c (.t (.s .z)) (.c (.t .z) .n)) (paint_brush_dress_c K a0 a1 b0_0 b0_1 v0_2 v1_0 v1_1) (.c (.s .z) (.c (.s .z) (.c (.s .z) (.r (.s .z) (.r (.s (.s .z)) .n))))) rfl rfl fun o23 x24 h25 => ?_
              refine lRd (dAssign (.t .z)) rfl rfl ?_
              refine lKeep (.k (.d (.d (.d (.d (.d (.k (.k (.k .n))))))))) ?_
              refine lNil ?_
              refine xCode ?_
              refine cSeq ?_
              refine cRegion ?_
              refine lRd (dMove (.t (.s (.s (.s .z))))) rfl rfl ?_
              refine lRd (dFld fld_97_0 (by decide) (.t (.s (.s (.s .z)))) rfl) rfl rfl ?_
              refine lRd (dLoad (.s (.s (.s .z))) agg_5 (.t .z) rfl) rfl rfl ?_
              refine lRd (dEqB (.t .z) (.c (v' := vB 8) rfl)) rfl rfl ?_
              refine lRd (dMove (.t .z)) rfl rfl ?_
              refine lRdG rfl .z (decide_eq_false h7) (dFld fld_97_0 (by decide) (.t (.s (.s (.s (.s (.s (.s (.s .z)))))))) rfl) rfl rfl ?_
              refine lRdG rfl (.s .z) (decide_eq_false h7) (dLoad (.s (.s (.s .z))) agg_5 (.t .z) rfl) rfl rfl ?_
              refine lRdG rfl (.s (.s .z)) (decide_eq_false h7) (dEqB (.t .z) (.c (v' := vB 0) rfl)) rfl rfl ?_
              refine lRdG rfl (.s (.s (.s .z))) (decide_eq_false h7) (dMove (.t .z)) rfl rfl ?_
              refine lPass rfl .z (nbT (decide_eq_false h2)) rfl ?_
              refine lPass rfl .z (nbT (decide_eq_false h2)) rfl ?_
              refine lPass rfl .z (nbT (decide_eq_false h2)) rfl ?_
              refine lPass rfl .z (nbT (decide_eq_false h2)) rfl ?_
              refine lRdG rfl (.s (.s (.s (.s .z)))) (decide_eq_false h7) (dPickF (.t .z) (decide_eq_false h2) (.c rfl)) rfl rfl ?_
              refine lRd (dPickF (.t (.s (.s (.s (.s (.s .z)))))) (decide_eq_false h7) (.t .z)) rfl rfl ?_
              refine lRd (dNil (.t (.s (.s (.s (.s (.s (.s (.s (.s (.s (.s .z)))))))))))) rfl rfl ?_
              refine lRd (dFld fld_123_3 (by decide) (.t .z) rfl) rfl rfl ?_
              refine lChU (uStore .z siz_4 rfl (.s (.s (.s (.s (.s (.s (.s .z))))))) (.t .z) (.t (.s (.s .z)))) ?_
              refine lKeep (.d (.d (.d (.d (.d (.d (.d (.d (.d (.d (.d (.d (.d (.k (.k .n))))))))))))))) ?_
              refine lNil ?_
              refine xCode ?_
              refine cSeq ?_
              refine cRegion ?_
              refine lRd (dMove (.t .z)) rfl rfl ?_
              refine lRdK (dAssign (.t .z)) (.k (.k (.d (Keep.refl _)))) rfl rfl ?_
              refine lKeep (.k .n) ?_
              refine lNil ?_
              refine xCode ?_
              refine cRet ?_
              refine rLeave hD ?_
              exact lvRet (rs := [.tmp 4]) rfl (.t .z .n) () rfl (.c .z (.c .z (.c .z .nil)))
            · refine cSeq ?_
              refine cRegion ?_
              refine lRd (dEqB (.t (.s .z)) (.c (v' := vB 44) rfl)) rfl rfl ?_
              refine lRd (dAssign (.t .z)) rfl rfl ?_
              refine lKeep (.k (.d (.d (.k (.k (.k (.k (.k .n)))))))) ?_
              refine lNil ?_
              refine xCode ?_
              refine cCond (.t .z) (fun h26 => ?_) (fun h26 => ?_)
              · refine cRegion ?_
                refine lRdK (dAssign .f) (.k (.k (.d (Keep.refl _)))) rfl rfl ?_
                refine lKeep (.k (.d (.d (.k (.k (.k .n)))))) ?_
                refine lNil ?_
                refine xBlock ?_
                refine xCode ?_
                refine cSeq ?_
                refine cRegion ?_
                refine lRd (dMove (.t .z)) rfl rfl ?_
                refine lRd (dMove (.t (.s (.s (.s (.s .z)))))) rfl rfl ?_
                refine lRd (dLoadA (us := [vB a1.f_Kind, .int .i64 a1.f_Addr, vB a1.f_Byte, .bool a1.f_GE, v1_0, v1_1]) .z agg_97 siz_97 rfl (.t (.s (.s (.s (.s .z))))) rfl) rfl rfl ?_
                refine lCallV (vs := [.pointer (some ⟨b0_0, 0, none⟩), .agg #[vB a1.f_Kind, .int .i64 a1.f_Addr, vB a1.f_Byte, .bool a1.f_GE, v1_0, v1_1]]) (cap := []) (.t (.s (.s .z))) fok_86 (.c (.t (.s .z)) (.c (.t .z) .n)) (paint_brush_modify_c K a0 a1 b0_0 b0_1 v0_2 v1_0 v1_1) (.c (.s .z) (.c (.s .z) (.c (.s .z) (.r (.s .z) (.r (.s (.s .z)) .n))))) rfl rfl fun o27 x28 h29 => ?_
                refine lRd (dAssign (.t .z)) rfl rfl ?_
                refine lKeep (.k (.d (.d (.d (.d (.d (.k (.k (.k .n))))))))) ?_
                refine lNil ?_
                refine xCode ?_
                refine cSeq ?_
                refine cRegion ?_
                refine lRd (dMove (.t (.s (.s (.s .z))))) rfl rfl ?_
                refine lRd (dFld fld_97_0 (by decide) (.t (.s (.s (.s .z)))) rfl) rfl rfl ?_
                refine lRd (dLoad (.s (.s (.s .z))) agg_5 (.t .z) rfl) rfl rfl ?_
                refine lRd (dEqB (.t .z) (.c (v' := vB 8) rfl)) rfl rfl ?_
                refine lRd (dMove (.t .z)) rfl rfl ?_
                refine lRdG rfl .z (decide_eq_false h7) (dFld fld_97_0 (by decide) (.t (.s (.s (.s (.s (.s (.s (.s .z)))))))) rfl) rfl rfl ?_
                refine lRdG rfl (.s .z) (decide_eq_false h7) (dLoad (.s (.s (.s .z))) agg_5 (.t .z) rfl) rfl rfl ?_
                refine lRdG rfl (.s (.s .z)) (decide_eq_false h7) (dEqB (.t .z) (.c (v' := vB 0) rfl)) rfl rfl ?_
                refine lRdG rfl (.s (.s (.s .z))) (decide_eq_false h7) (dMove (.t .z)) rfl rfl ?_
                refine lPass rfl .z (nbT (decide_eq_false h2)) rfl ?_
                refine lPass rfl .z (nbT (decide_eq_false h2)) rfl ?_
                refine lPass rfl .z (nbT (decide_eq_false h2)) rfl ?_
                refine lPass rfl .z (nbT (decide_eq_false h2)) rfl ?_
                refine lRdG rfl (.s (.s (.s (.s .z)))) (decide_eq_false h7) (dPickF (.t .z) (decide_eq_false h2) (.c rfl)) rfl rfl ?_
                refine lRd (dPickF (.t (.s (.s (.s (.s (.s .z)))))) (decide_eq_false h7) (.t .z)) rfl rfl ?_
                refine lRd (dNil (.t (.s (.s (.s (.s (.s (.s (.s (.s (.s (.s .z)))))))))))) rfl rfl ?_
                refine lRd (dFld fld_123_3 (by decide) (.t .z) rfl) rfl rfl ?_
                refine lChU (uStore .z siz_4 rfl (.s (.s (.s (.s (.s (.s (.s .z))))))) (.t .z) (.t (.s (.s .z)))) ?_
                refine lKeep (.d (.d (.d (.d (.d (.d (.d (.d (.d (.d (.d (.d (.d (.k (.k .n))))))))))))))) ?_
                refine lNil ?_
                refine xCode ?_
                refine cSeq ?_
                refine cRegion ?_
                refine lRd (dMove (.t .z)) rfl rfl ?_
                refine lRdK (dAssign (.t .z)) (.k (.k (.d (Keep.refl _)))) rfl rfl ?_
                refine lKeep (.k .n) ?_
                refine lNil ?_
                refine xCode ?_
                refine cRet ?_
                refine rLeave hD ?_
                exact lvRet (rs := [.tmp 4]) rfl (.t .z .n) () rfl (.c .z (.c .z (.c .z .nil)))
              · refine cSeq ?_
                refine cRegion ?_
                refine lRd (dEqB (.t (.s .z)) (.c (v' := vB 19) rfl)) rfl rfl ?_
                refine lRd (dAssign (.t .z)) rfl rfl ?_
                refine lKeep (.k (.d (.d (.k (.k (.k (.k (.k .n)))))))) ?_
                refine lNil ?_
                refine xCode ?_
                refine cCond (.t .z) (fun h30 => ?_) (fun h30 => ?_)
                · refine cRegion ?_
                  refine lRdK (dAssign .f) (.k (.k (.d (Keep.refl _)))) rfl rfl ?_
                  refine lKeep (.k (.d (.d (.k (.k (.k .n)))))) ?_
                  refine lNil ?_
                  refine xBlock ?_
                  refine xCode ?_
                  refine cSeq ?_
                  refine cRegion ?_
                  refine lRd (dMove (.t .z)) rfl rfl ?_
                  refine lRd (dMove (.t (.s (.s (.s (.s .z)))))) rfl rfl ?_
                  refine lRd (dLoadA (us := [vB a1.f_Kind, .int .i64 a1.f_Addr, vB a1.f_Byte, .bool a1.f_GE, v1_0, v1_1]) .z agg_97 siz_97 rfl (.t (.s (.s (.s (.s .z))))) rfl) rfl rfl ?_
                  refine lCallV (vs := [.pointer (some ⟨b0_0, 0, none⟩), .agg #[vB a1.f_Kind, .int .i64 a1.f_Addr, vB a1.f_Byte, .bool a1.f_GE, v1_0, v1_1]]) (cap := []) (.t (.s (.s .z))) fok_87 (.c (.t (.s .z)) (.c (.t .z) .n)) (paint_brush_cursor_c a0 a1 b0_0 b0_1 v0_2 v1_0 v1_1) (.c (.s .z) (.c (.s .z) (.c (.s .z) (.r (.s .z) (.r (.s (.s .z)) .n))))) rfl rfl fun o31 x32 h33 => ?_
                  refine lRd (dAssign (.t .z)) rfl rfl ?_
                  refine lKeep (.k (.d (.d (.d (.d (.d (.k (.k (.k .n))))))))) ?_
                  refine lNil ?_
                  refine xCode ?_
                  refine cSeq ?_
                  refine cRegion ?_
                  refine lRd (dMove (.t (.s (.s (.s .z))))) rfl rfl ?_
                  refine lRd (dFld fld_97_0 (by decide) (.t (.s (.s (.s .z)))) rfl) rfl rfl ?_
                  refine lRd (dLoad (.s (.s (.s .z))) agg_5 (.t .z) rfl) rfl rfl ?_
                  refine lRd (dEqB (.t .z) (.c (v' := vB 8) rfl)) rfl rfl ?_
                  refine lRd (dMove (.t .z)) rfl rfl ?_
                  refine lRdG rfl .z (decide_eq_false h7) (dFld fld_97_0 (by decide) (.t (.s (.s (.s (.s (.s (.s (.s .z)))))))) rfl) rfl rfl ?_
                  refine lRdG rfl (.s .z) (decide_eq_false h7) (dLoad (.s (.s (.s .z))) agg_5 (.t .z) rfl) rfl rfl ?_
                  refine lRdG rfl (.s (.s .z)) (decide_eq_false h7) (dEqB (.t .z) (.c (v' := vB 0) rfl)) rfl rfl ?_
                  refine lRdG rfl (.s (.s (.s .z))) (decide_eq_false h7) (dMove (.t .z)) rfl rfl ?_
                  refine lPass rfl .z (nbT (decide_eq_false h2)) rfl ?_
                  refine lPass rfl .z (nbT (decide_eq_false h2)) rfl ?_
                  refine lPass rfl .z (nbT (decide_eq_false h2)) rfl ?_
                  refine lPass rfl .z (nbT (decide_eq_false h2)) rfl ?_
                  refine lRdG rfl (.s (.s (.s (.s .z)))) (decide_eq_false h7) (dPickF (.t .z) (decide_eq_false h2) (.c rfl)) rfl rfl ?_
                  refine lRd (dPickF (.t (.s (.s (.s (.s (.s .z)))))) (decide_eq_false h7) (.t .z)) rfl rfl ?_
                  refine lRd (dNil (.t (.s (.s (.s (.s (.s (.s (.s (.s (.s (.s .z)))))))))))) rfl rfl ?_
                  refine lRd (dFld fld_123_3 (by decide) (.t .z) rfl) rfl rfl ?_
                  refine lChU (uStore .z siz_4 rfl (.s (.s (.s (.s (.s (.s (.s .z))))))) (.t .z) (.t (.s (.s .z)))) ?_
                  refine lKeep (.d (.d (.d (.d (.d (.d (.d (.d (.d (.d (.d (.d (.d (.k (.k .n))))))))))))))) ?_
                  refine lNil ?_
                  refine xCode ?_
                  refine cSeq ?_
                  refine cRegion ?_
                  refine lRd (dMove (.t .z)) rfl rfl ?_
                  refine lRdK (dAssign (.t .z)) (.k (.k (.d (Keep.refl _)))) rfl rfl ?_
                  refine lKeep (.k .n) ?_
                  refine lNil ?_
                  refine xCode ?_
                  refine cRet ?_
                  refine rLeave hD ?_
                  exact lvRet (rs := [.tmp 4]) rfl (.t .z .n) () rfl (.c .z (.c .z (.c .z .nil)))
                · refine cSeq ?_
                  refine cRegion ?_
                  refine lRd (dEqB (.t (.s .z)) (.c (v' := vB 5) rfl)) rfl rfl ?_
                  refine lRd (dAssign (.t .z)) rfl rfl ?_
                  refine lKeep (.k (.d (.d (.k (.k (.k (.k (.k .n)))))))) ?_
                  refine lNil ?_
                  refine xCode ?_
                  refine cCond (.t .z) (fun h34 => ?_) (fun h34 => ?_)
                  · refine cRegion ?_
                    refine lRdK (dAssign .f) (.k (.k (.d (Keep.refl _)))) rfl rfl ?_
                    refine lKeep (.k (.d (.d (.k (.k (.k .n)))))) ?_
                    refine lNil ?_
                    refine xBlock ?_
                    refine xCode ?_
                    refine cSeq ?_
                    refine cRegion ?_
                    refine lRd (dMove (.t .z)) rfl rfl ?_
                    refine lRd (dMove (.t (.s (.s (.s (.s .z)))))) rfl rfl ?_
                    refine lRd (dLoadA (us := [vB a1.f_Kind, .int .i64 a1.f_Addr, vB a1.f_Byte, .bool a1.f_GE, v1_0, v1_1]) .z agg_97 siz_97 rfl (.t (.s (.s (.s (.s .z))))) rfl) rfl rfl ?_
                    refine lCallV (vs := [.pointer (some ⟨b0_0, 0, none⟩), .agg #[vB a1.f_Kind, .int .i64 a1.f_Addr, vB a1.f_Byte, .bool a1.f_GE, v1_0, v1_1]]) (cap := []) (.t (.s (.s .z))) fok_88 (.c (.t (.s .z)) (.c (.t .z) .n)) (paint_brush_tab_c K a0 a1 b0_0 b0_1 v0_2 v1_0 v1_1) (.c (.s .z) (.c (.s .z) (.c (.s .z) (.r (.s .z) (.r (.s (.s .z)) .n))))) rfl rfl fun o35 x36 h37 => ?_
                    refine lRd (dAssign (.t .z)) rfl rfl ?_
                    refine lKeep (.k (.d (.d (.d (.d (.d (.k (.k (.k .n))))))))) ?_
                    refine lNil ?_
                    refine xCode ?_
                    refine cSeq ?_
                    refine cRegion ?_
                    refine lRd (dMove (.t (.s (.s (.s .z))))) rfl rfl ?_
                    refine lRd (dFld fld_97_0 (by decide) (.t (.s (.s (.s .z)))) rfl) rfl rfl ?_
                    refine lRd (dLoad (.s (.s (.s .z))) agg_5 (.t .z) rfl) rfl rfl ?_
                    refine lRd (dEqB (.t .z) (.c (v' := vB 8) rfl)) rfl rfl ?_
                    refine lRd (dMove (.t .z)) rfl rfl ?_
                    refine lRdG rfl .z (decide_eq_false h7) (dFld fld_97_0 (by decide) (.t (.s (.s (.s (.s (.s (.s (.s .z)))))))) rfl) rfl rfl ?_
                    refine lRdG rfl (.s .z) (decide_eq_false h7) (dLoad (.s (.s (.s .z))) agg_5 (.t .z) rfl) rfl rfl ?_
                    refine lRdG rfl (.s (.s .z)) (decide_eq_false h7) (dEqB (.t .z) (.c (v' := vB 0) rfl)) rfl rfl ?_
                    refine lRdG rfl (.s (.s (.s .z))) (decide_eq_false h7) (dMove (.t .z)) rfl rfl ?_
                    refine lPass rfl .z (nbT (decide_eq_false h2)) rfl ?_
                    refine lPass rfl .z (nbT (decide_eq_false h2)) rfl ?_
                    refine lPass rfl .z (nbT (decide_eq_false h2)) rfl ?_
                    refine lPass rfl .z (nbT (decide_eq_false h2)) rfl ?_
                    refine lRdG rfl (.s (.s (.s (.s .z)))) (decide_eq_false h7) (dPickF (.t .z) (decide_eq_false h2) (.c rfl)) rfl rfl ?_
                    refine lRd (dPickF (.t (.s (.s (.s (.s (.s .z)))))) (decide_eq_false h7) (.t .z)) rfl rfl ?_
                    refine lRd (dNil (.t (.s (.s (.s (.s (.s (.s (.s (.s (.s (.s .z)))))))))))) rfl rfl ?_
                    refine lRd (dFld fld_123_3 (by decide) (.t .z) rfl) rfl rfl ?_
                    refine lChU (uStore .z siz_4 rfl (.s (.s (.s (.s (.s (.s (.s .z))))))) (.t .z) (.t (.s (.s .z)))) ?_
                    refine lKeep (.d (.d (.d (.d (.d (.d (.d (.d (.d (.d (.d (.d (.d (.k (.k .n))))))))))))))) ?_
                    refine lNil ?_
                    refine xCode ?_
                    refine cSeq ?_
                    refine cRegion ?_
                    refine lRd (dMove (.t .z)) rfl rfl ?_
                    refine lRdK (dAssign (.t .z)) (.k (.k (.d (Keep.refl _)))) rfl rfl ?_
                    refine lKeep (.k .n) ?_
                    refine lNil ?_
                    refine xCode ?_
                    refine cRet ?_
                    refine rLeave hD ?_
                    exact lvRet (rs := [.tmp 4]) rfl (.t .z .n) () rfl (.c .z (.c .z (.c .z .nil)))
                  · refine cSeq ?_
                    refine cRegion ?_
                    refine lRd (dEqB (.t (.s .z)) (.c (v' := vB 60) rfl)) rfl rfl ?_
                    refine lRd (dAssign (.t .z)) rfl rfl ?_
                    refine lKeep (.k (.d (.d (.k (.k (.k (.k (.k .n)))))))) ?_
                    refine lNil ?_
                    refine xCode ?_
                    refine cCond (.t .z) (fun h38 => ?_) (fun h38 => ?_)
                    · refine cRegion ?_
                      refine lRdK (dAssign .f) (.k (.k (.d (Keep.refl _)))) rfl rfl ?_
                      refine lKeep (.k (.d (.d (.k (.k (.k .n)))))) ?_
                      refine lNil ?_
                      refine xBlock ?_
                      refine xCode ?_
                      refine cSeq ?_
                      refine cRegion ?_
                      refine lRd (dMove (.t .z)) rfl rfl ?_
                      refine lRd (dMove (.t (.s (.s (.s (.s .z)))))) rfl rfl ?_
                      refine lRd (dLoadA (us := [vB a1.f_Kind, .int .i64 a1.f_Addr, vB a1.f_Byte, .bool a1.f_GE, v1_0, v1_1]) .z agg_97 siz_97 rfl (.t (.s (.s (.s (.s .z))))) rfl) rfl rfl ?_
                      refine lCallV (vs := [.pointer (some ⟨b0_0, 0, none⟩), .agg #[vB a1.f_Kind, .int .i64 a1.f_Addr, vB a1.f_Byte, .bool a1.f_GE, v1_0, v1_1]]) (cap := []) (.t (.s (.s .z))) fok_89 (.c (.t (.s .z)) (.c (.t .z) .n)) (paint_brush_repeat_c K a0 a1 b0_0 b0_1 v0_2 v1_0 v1_1) (.c (.s .z) (.c (.s .z) (.c (.s .z) (.r (.s .z) (.r (.s (.s .z)) .n))))) rfl rfl fun o39 x40 h41 => ?_
                      refine lRd (dAssign (.t .z)) rfl rfl ?_
                      refine lKeep (.k (.d (.d (.d (.d (.d (.k (.k (.k .n))))))))) ?_
                      refine lNil ?_
                      refine xCode ?_
                      refine cSeq ?_
                      refine cRegion ?_
                      refine lRd (dMove (.t (.s (.s (.s .z))))) rfl rfl ?_
                      refine lRd (dFld fld_97_0 (by decide) (.t (.s (.s (.s .z)))) rfl) rfl rfl ?_
                      refine lRd (dLoad (.s (.s (.s .z))) agg_5 (.t .z) rfl) rfl rfl ?_
                      refine lRd (dEqB (.t .z) (.c (v' := vB 8) rfl)) rfl rfl ?_
                      refine lRd (dMove (.t .z)) rfl rfl ?_
                      refine lRdG rfl .z (decide_eq_false h7) (dFld fld_97_0 (by decide) (.t (.s (.s (.s (.s (.s (.s (.s .z)))))))) rfl) rfl rfl ?_
                      refine lRdG rfl (.s .z) (decide_eq_false h7) (dLoad (.s (.s (.s .z))) agg_5 (.t .z) rfl) rfl rfl ?_
                      refine lRdG rfl (.s (.s .z)) (decide_eq_false h7) (dEqB (.t .z) (.c (v' := vB 0) rfl)) rfl rfl ?_
                      refine lRdG rfl (.s (.s (.s .z))) (decide_eq_false h7) (dMove (.t .z)) rfl rfl ?_
                      refine lPass rfl .z (nbT (decide_eq_false h2)) rfl ?_
                      refine lPass rfl .z (nbT (decide_eq_false h2)) rfl ?_
                      refine lPass rfl .z (nbT (decide_eq_false h2)) rfl ?_
                      refine lPass rfl .z (nbT (decide_eq_false h2)) rfl ?_
                      refine lRdG rfl (.s (.s (.s (.s .z)))) (decide_eq_false h7) (dPickF (.t .z) (decide_eq_false h2) (.c rfl)) rfl rfl ?_
                      refine lRd (dPickF (.t (.s (.s (.s (.s (.s .z)))))) (decide_eq_false h7) (.t .z)) rfl rfl ?_
                      refine lRd (dNil (.t (.s (.s (.s (.s (.s (.s (.s (.s (.s (.s .z)))))))))))) rfl rfl ?_
                      refine lRd (dFld fld_123_3 (by decide) (.t .z) rfl) rfl rfl ?_
                      refine lChU (uStore .z siz_4 rfl (.s (.s (.s (.s (.s (.s (.s .z))))))) (.t .z) (.t (.s (.s .z)))) ?_
                      refine lKeep (.d (.d (.d (.d (.d (.d (.d (.d (.d (.d (.d (.d (.d (.k (.k .n))))))))))))))) ?_
                      refine lNil ?_
                      refine xCode ?_
                      refine cSeq ?_
                      refine cRegion ?_
                      refine lRd (dMove (.t .z)) rfl rfl ?_
                      refine lRdK (dAssign (.t .z)) (.k (.k (.d (Keep.refl _)))) rfl rfl ?_
                      refine lKeep (.k .n) ?_
                      refine lNil ?_
                      refine xCode ?_
                      refine cRet ?_
                      refine rLeave hD ?_
                      exact lvRet (rs := [.tmp 4]) rfl (.t .z .n) () rfl (.c .z (.c .z (.c .z .nil)))
                    · refine cSeq ?_
                      refine cRegion ?_
                      refine lRd (dEqB (.t (.s .z)) (.c (v' := vB 18) rfl)) rfl rfl ?_
                      refine lRd (dAssign (.t .z)) rfl rfl ?_
                      refine lKeep (.k (.d (.d (.d (.k (.k (.k (.k .n)))))))) ?_
                      refine lNil ?_
                      refine xCode ?_
                      refine cCond (.t .z) (fun h42 => ?_) (fun h42 => ?_)
                      · refine cRegion ?_
                        refine lRdK (dAssign .f) (.k (.d (Keep.refl _))) rfl rfl ?_
                        refine lKeep (.k (.d (.k (.k (.k .n))))) ?_
                        refine lNil ?_
                        refine xBlock ?_
                        refine xCode ?_
                        refine cSeq ?_
                        refine cRegion ?_
                        refine lRd (dMove (.t .z)) rfl rfl ?_
                        refine lRd (dMove (.t (.s (.s (.s (.s .z)))))) rfl rfl ?_
                        refine lRd (dLoadA (us := [vB a1.f_Kind, .int .i64 a1.f_Addr, vB a1.f_Byte, .bool a1.f_GE, v1_0, v1_1]) .z agg_97 siz_97 rfl (.t (.s (.s (.s (.s .z))))) rfl) rfl rfl ?_
                        refine lCallV (vs := [.pointer (some ⟨b0_0, 0, none⟩), .agg #[vB a1.f_Kind, .int .i64 a1.f_Addr, vB a1.f_Byte, .bool a1.f_GE, v1_0, v1_1]]) (cap := []) (.t (.s (.s .z))) fok_90 (.c (.t (.s .z)) (.c (.t .z) .n)) (paint_brush_wipe_c K a0 a1 b0_0 b0_1 v0_2 v1_0 v1_1) (.c (.s .z) (.c (.s .z) (.c (.s .z) (.r (.s .z) (.r (.s (.s .z)) .n))))) rfl rfl fun o43 x44 h45 => ?_
                        refine lRd (dAssign (.t .z)) rfl rfl ?_
                        refine lKeep (.k (.d (.d (.d (.d (.d (.k (.k (.k .n))))))))) ?_
                        refine lNil ?_
                        refine xCode ?_
                        refine cSeq ?_
                        refine cRegion ?_
                        refine lRd (dMove (.t (.s (.s (.s .z))))) rfl rfl ?_
                        refine lRd (dFld fld_97_0 (by decide) (.t (.s (.s (.s .z)))) rfl) rfl rfl ?_
                        refine lRd (dLoad (.s (.s (.s .z))) agg_5 (.t .z) rfl) rfl rfl ?_
                        refine lRd (dEqB (.t .z) (.c (v' := vB 8) rfl)) rfl rfl ?_
                        refine lRd (dMove (.t .z)) rfl rfl ?_
                        refine lRdG rfl .z (decide_eq_false h7) (dFld fld_97_0 (by decide) (.t (.s (.s (.s (.s (.s (.s (.s .z)))))))) rfl) rfl rfl ?_
                        refine lRdG rfl (.s .z) (decide_eq_false h7) (dLoad (.s (.s (.s .z))) agg_5 (.t .z) rfl) rfl rfl ?_
                        refine lRdG rfl (.s (.s .z)) (decide_eq_false h7) (dEqB (.t .z) (.c (v' := vB 0) rfl)) rfl rfl ?_
                        refine lRdG rfl (.s (.s (.s .z))) (decide_eq_false h7) (dMove (.t .z)) rfl rfl ?_
                        refine lPass rfl .z (nbT (decide_eq_false h2)) rfl ?_
                        refine lPass rfl .z (nbT (decide_eq_false h2)) rfl ?_
                        refine lPass rfl .z (nbT (decide_eq_false h2)) rfl ?_
                        refine lPass rfl .z (nbT (decide_eq_false h2)) rfl ?_
                        refine lRdG rfl (.s (.s (.s (.s .z)))) (decide_eq_false h7) (dPickF (.t .z) (decide_eq_false h2) (.c rfl)) rfl rfl ?_
                        refine lRd (dPickF (.t (.s (.s (.s (.s (.s .z)))))) (decide_eq_false h7) (.t .z)) rfl rfl ?_
                        refine lRd (dNil (.t (.s (.s (.s (.s (.s (.s (.s (.s (.s (.s .z)))))))))))) rfl rfl ?_
                        refine lRd (dFld fld_123_3 (by decide) (.t .z) rfl) rfl rfl ?_
                        refine lChU (uStore .z siz_4 rfl (.s (.s (.s (.s (.s (.s (.s .z))))))) (.t .z) (.t (.s (.s .z)))) ?_
                        refine lKeep (.d (.d (.d (.d (.d (.d (.d (.d (.d (.d (.d (.d (.d (.k (.k .n))))))))))))))) ?_
                        refine lNil ?_
                        refine xCode ?_
                        refine cSeq ?_
                        refine cRegion ?_
                        refine lRd (dMove (.t .z)) rfl rfl ?_
                        refine lRdK (dAssign (.t .z)) (.k (.k (.d (Keep.refl _)))) rfl rfl ?_
                        refine lKeep (.k .n) ?_
                        refine lNil ?_
                        refine xCode ?_
                        refine cRet ?_
                        refine rLeave hD ?_
                        exact lvRet (rs := [.tmp 4]) rfl (.t .z .n) () rfl (.c .z (.c .z (.c .z .nil)))
                      · refine cSeq ?_
                        refine cRegion ?_
                        refine lRdK (dAssign (.c rfl)) (.k (.k (.d (Keep.refl _)))) rfl rfl ?_
                        refine lKeep (.k (.d (.k (.k (.k .n))))) ?_
                        refine lNil ?_
                        refine xCode ?_
                        refine cRet ?_
                        refine rLeave hD ?_
                        exact lvRet (rs := [.tmp 4]) rfl (.t .z .n) () rfl (.c (.s .z) (.c (.s .z) (.c (.s .z) .nil)))

-- greenscreen/paint.Paint
def paint_Paint_l1 (K : Nat) (a1 : (List api_Order)) : Nat → (Int × Int × UInt8 × Bool × Bool × UInt8 × UInt8 × Bool × Int × Int × (List api_Cell) × Int) → Option (Sum (Int × UInt8 × Bool × Bool × UInt8 × UInt8 × Bool × Int × Int × (List api_Cell) × Int) (plane_Plane × Int × Int × Int))
  | 0, _ => none
  | n + 1, s9 => (if s9.1 < (a1.length : Int) then (ix a1 s9.1).bind fun y15 => (paint_brush_do_m K (⟨(⟨(⟨s9.2.2.2.2.2.2.2.2.1, s9.2.2.2.2.2.2.2.2.2.1⟩ : api_Size), s9.2.2.2.2.2.2.2.2.2.2.1, s9.2.2.2.2.2.2.2.2.2.2.2⟩ : plane_Plane), s9.2.1, (⟨s9.2.2.1, s9.2.2.2.1, s9.2.2.2.2.1, s9.2.2.2.2.2.1, s9.2.2.2.2.2.2.1⟩ : api_Cell), s9.2.2.2.2.2.2.2.1⟩ : paint_brush) y15).bind fun o22 => (if o22.2 ≠ 0 then some (Sum.inr (o22.1.f_p, o22.1.f_at, s9.1, o22.2)) else (paint_Paint_l1 K a1 n) (w64 (s9.1 + 1), o22.1.f_at, o22.1.f_look.f_Byte, o22.1.f_look.f_GE, o22.1.f_look.f_Start, o22.1.f_look.f_Light, o22.1.f_look.f_Color, o22.1.f_laid, o22.1.f_p.f_size.f_Rows, o22.1.f_p.f_size.f_Cols, o22.1.f_p.f_cells, o22.1.f_p.f_cursor)) else some (Sum.inl (s9.2.1, s9.2.2.1, s9.2.2.2.1, s9.2.2.2.2.1, s9.2.2.2.2.2.1, s9.2.2.2.2.2.2.1, s9.2.2.2.2.2.2.2.1, s9.2.2.2.2.2.2.2.2.1, s9.2.2.2.2.2.2.2.2.2.1, s9.2.2.2.2.2.2.2.2.2.2.1, s9.2.2.2.2.2.2.2.2.2.2.2)))
def paint_Paint_m (K : Nat) (a0 : plane_Plane) (a1 : (List api_Order)) (a2 : Int) : Option (plane_Plane × Int × Int × Int) := ((if a2 < 0 then some true else (plane_Plane_Len_m a0).bind fun o2 => some (decide (a2 ≥ o2)))).bind fun (s5 : Bool) => (if s5 = true then some (a0, 0, 0, 32) else (paint_Paint_l1 K a1 K (0, a2, 0, false, false, 0, 0, false, a0.f_size.f_Rows, a0.f_size.f_Cols, a0.f_cells, a0.f_cursor)).bind (onS fun (s26 : Int × UInt8 × Bool × Bool × UInt8 × UInt8 × Bool × Int × Int × (List api_Cell) × Int) => some ((⟨(⟨s26.2.2.2.2.2.2.2.1, s26.2.2.2.2.2.2.2.2.1⟩ : api_Size), s26.2.2.2.2.2.2.2.2.2.1, s26.2.2.2.2.2.2.2.2.2.2⟩ : plane_Plane), s26.1, (a1.length : Int), 0)))
theorem paint_Paint_c (K : Nat) (a0 : plane_Plane) (a1 : (List api_Order)) (a2 : Int) (b0_0 : Nat) (v0_1 : Value) (v1_0 : Value) : Con Try.prog 50 #[.pointer (some ⟨b0_0, 0, none⟩), v1_0, .int .i64 a2] [.blk b0_0 [.int .i64 a0.f_size.f_Rows, .int .i64 a0.f_size.f_Cols, v0_1, .int .i64 a0.f_cursor] 66, .own v0_1 44 k_api_Cell a0.f_cells, .ro (kSl k_api_Order) [v1_0] a1] (paint_Paint_m K a0 a1 a2) (fun (o : plane_Plane × Int × Int × Int) (x : Unit) => .tuple #[.int .i64 o.2.1, .int .i64 o.2.2.1, .int .i64 o.2.2.2]) (fun (o : plane_Plane × Int × Int × Int) (x : Unit) => [.blk b0_0 [.int .i64 o.1.f_size.f_Rows, .int .i64 o.1.f_size.f_Cols, v0_1, .int .i64 o.1.f_cursor] 66, .own v0_1 44 k_api_Cell o.1.f_cells]) := by
  unfold paint_Paint_m
  refine con (args := [.pointer (some ⟨b0_0, 0, none⟩), v1_0, .int .i64 a2]) Try.func50 rfl 50 rfl (.c (.c (.c .n))) rfl fun c hD hrn => ?_
  refine cSeq ?_
  refine cRegion ?_
  refine lRd (dAssign (.c rfl)) rfl rfl ?_
  refine lRd (dAssign (.c rfl)) rfl rfl ?_
  refine lRd (dAssign (.c rfl)) rfl rfl ?_
  refine lNil ?_
  refine xCode ?_
  refine cSeq ?_
  refine cSeq ?_
  refine cJoin (S := Bool) (X := Unit) (fun (s : Bool) (x : Unit) => [(20, .bool s), (8, .int .i64 0), (7, .int .i64 0), (6, .int .i64 0), (0, .pointer (some ⟨b0_0, 0, none⟩)), (1, v1_0), (2, .int .i64 a2)]) (fun (s : Bool) (x : Unit) => [.blk b0_0 [.int .i64 a0.f_size.f_Rows, .int .i64 a0.f_size.f_Cols, v0_1, .int .i64 a0.f_cursor] 66, .own v0_1 44 k_api_Cell a0.f_cells, .ro (kSl k_api_Order) [v1_0] a1]) ?_ (fun s5 x6 => ?_)
  · refine cRegion ?_
    refine lRd (dMove (.t (.s (.s (.s (.s (.s .z))))))) rfl rfl ?_
    refine lRd (dLt (.t .z) (.c rfl)) rfl rfl ?_
    refine lRd (dMove (.t .z)) rfl rfl ?_
    refine lCase (fun h1 => ?_) (fun h1 => ?_)
    · refine lPass rfl .z (nbF (decide_eq_true h1)) rfl ?_
      refine lPass rfl .z (nbF (decide_eq_true h1)) rfl ?_
      refine lPass rfl .z (nbF (decide_eq_true h1)) rfl ?_
      refine lPass rfl .z (nbF (decide_eq_true h1)) rfl ?_
      refine lRd (dPickT (.t .z) (decide_eq_true h1) (.c rfl)) rfl rfl ?_
      refine lKeep (.k (.d (.d (.d (.k (.k (.k (.k (.k (.k .n)))))))))) ?_
      refine lNil ?_
      exact xJoin true () (.c .z (.c (.s .z) (.c (.s (.s .z)) (.c (.s (.s (.s .z))) (.c (.s (.s (.s (.s .z)))) (.c (.s (.s (.s (.s (.s .z))))) (.c (.s (.s (.s (.s (.s (.s .z)))))) .n))))))) (.c .z (.c .z (.c .z .nil)))
    · refine lRdG rfl .z (decide_eq_false h1) (dMove (.t (.s (.s (.s (.s (.s (.s (.s (.s .z)))))))))) rfl rfl ?_
      refine lRdG rfl (.s .z) (decide_eq_false h1) (dMove (.t (.s (.s (.s (.s (.s (.s (.s .z))))))))) rfl rfl ?_
      refine lCallG rfl (.s (.s .z)) (decide_eq_false h1) fok_12 (.c (.t .z) .n) (plane_Plane_Len_c a0 b0_0 v0_1) (.c .z (.c .z .n)) rfl rfl fun o2 x3 h4 => ?_
      refine lRdG rfl (.s (.s (.s .z))) (decide_eq_false h1) (dGe (.t (.s (.s .z))) (.t .z)) rfl rfl ?_
      refine lRd (dPickF (.t (.s (.s (.s (.s .z))))) (decide_eq_false h1) (.t .z)) rfl rfl ?_
      refine lKeep (.k (.d (.d (.d (.d (.d (.d (.d (.k (.k (.k (.k (.k (.k .n)))))))))))))) ?_
      refine lNil ?_
      exact xJoin (decide (a2 ≥ o2)) () (.c .z (.c (.s .z) (.c (.s (.s .z)) (.c (.s (.s (.s .z))) (.c (.s (.s (.s (.s .z)))) (.c (.s (.s (.s (.s (.s .z))))) (.c (.s (.s (.s (.s (.s (.s .z)))))) .n))))))) (.c .z (.c .z (.c .z .nil)))
  · refine xCode ?_
    refine cCondB (.t .z) (fun h7 => ?_) (fun h7 => ?_)
    · refine cSeq ?_
      refine cRegion ?_
      refine lRdK (dAssign (.c rfl)) (.k (.k (.k (.d (Keep.refl _))))) rfl rfl ?_
      refine lRdK (dAssign (.c rfl)) (.k (.k (.k (.d (Keep.refl _))))) rfl rfl ?_
      refine lRdK (dAssign (.c rfl)) (.k (.k (.k (.d (Keep.refl _))))) rfl rfl ?_
      refine lKeep (.k (.k (.k (.d (.k (.k (.k .n))))))) ?_
      refine lNil ?_
      refine xCode ?_
      refine cRet ?_
      refine rLeave hD ?_
      exact lvRet (rs := [.tmp 6, .tmp 7, .tmp 8]) rfl (.t (.s (.s .z)) (.t (.s .z) (.t .z .n))) () rfl (.c .z (.c .z .nil))
    · refine cSkip ?_
      refine xCode ?_
      refine cSeq ?_
      refine cRegion ?_
      refine lRd (dMove (.t (.s (.s (.s (.s .z)))))) rfl rfl ?_
      refine lRd (dMove (.t (.s (.s (.s (.s (.s (.s (.s .z))))))))) rfl rfl ?_
      refine lRd (dBuild (cs := [.pointer (some ⟨b0_0, 0, none⟩), .int .i64 a2, vB 0, .bool false, .bool false, vB 0, vB 0, .bool false]) zer_123 rfl plc_123 (.c (.t (.s .z)) (.c (.t .z) .n)) rfl) rfl rfl ?_
      refine lCh (cBox (cs := [.pointer (some ⟨b0_0, 0, none⟩), .int .i64 a2, vB 0, .bool false, .bool false, vB 0, vB 0, .bool false]) (.t .z) rfl) rfl rfl fun b8 => ?_
      refine lRd (dAssign (.t .z)) rfl rfl ?_
      refine lKeep (.k (.d (.d (.d (.d (.d (.k (.k (.k (.d (.k .n))))))))))) ?_
      refine lNil ?_
      refine xCode ?_
      refine cSeq ?_
      refine cSeq ?_
      refine cRegion ?_
      refine lRd (dMove (.t (.s (.s (.s (.s .z)))))) rfl rfl ?_
      refine lRd (dLen (at_ := #[55]) (slRo (.s (.s (.s .z)))) rfl und_55 (.t .z)) rfl rfl ?_
      refine lRd (dMove (.c rfl)) rfl rfl ?_
      refine lNil ?_
      refine xCode ?_
      refine cLoopR (S := Int × Int × UInt8 × Bool × Bool × UInt8 × UInt8 × Bool × Int × Int × (List api_Cell) × Int) (X := Unit) (S' := Int × UInt8 × Bool × Bool × UInt8 × UInt8 × Bool × Int × Int × (List api_Cell) × Int) (X' := Unit) (paint_Paint_l1 K a1) (fun (s : Int × Int × UInt8 × Bool × Bool × UInt8 × UInt8 × Bool × Int × Int × (List api_Cell) × Int) (x : Unit) => [(27, .int .i64 s.1), (26, .int .i64 (a1.length : Int)), (25, v1_0), (9, .pointer (some ⟨b8, 0, none⟩)), (8, .int .i64 0), (7, .int .i64 0), (6, .int .i64 0), (1, v1_0)]) (fun (s : Int × Int × UInt8 × Bool × Bool × UInt8 × UInt8 × Bool × Int × Int × (List api_Cell) × Int) (x : Unit) => [.blk b8 [.pointer (some ⟨b0_0, 0, none⟩), .int .i64 s.2.1, vB s.2.2.1, .bool s.2.2.2.1, .bool s.2.2.2.2.1, vB s.2.2.2.2.2.1, vB s.2.2.2.2.2.2.1, .bool s.2.2.2.2.2.2.2.1] 123, .blk b0_0 [.int .i64 s.2.2.2.2.2.2.2.2.1, .int .i64 s.2.2.2.2.2.2.2.2.2.1, v0_1, .int .i64 s.2.2.2.2.2.2.2.2.2.2.2] 66, .own v0_1 44 k_api_Cell s.2.2.2.2.2.2.2.2.2.2.1, .ro (kSl k_api_Order) [v1_0] a1]) (fun (s : Int × UInt8 × Bool × Bool × UInt8 × UInt8 × Bool × Int × Int × (List api_Cell) × Int) (x : Unit) => [(9, .pointer (some ⟨b8, 0, none⟩)), (8, .int .i64 0), (7, .int .i64 0), (6, .int .i64 0), (1, v1_0)]) (fun (s : Int × UInt8 × Bool × Bool × UInt8 × UInt8 × Bool × Int × Int × (List api_Cell) × Int) (x : Unit) => [.blk b8 [.pointer (some ⟨b0_0, 0, none⟩), .int .i64 s.1, vB s.2.1, .bool s.2.2.1, .bool s.2.2.2.1, vB s.2.2.2.2.1, vB s.2.2.2.2.2.1, .bool s.2.2.2.2.2.2.1] 123, .blk b0_0 [.int .i64 s.2.2.2.2.2.2.2.1, .int .i64 s.2.2.2.2.2.2.2.2.1, v0_1, .int .i64 s.2.2.2.2.2.2.2.2.2.2] 66, .own v0_1 44 k_api_Cell s.2.2.2.2.2.2.2.2.2.1, .ro (kSl k_api_Order) [v1_0] a1]) K (0, a2, 0, false, false, 0, 0, false, a0.f_size.f_Rows, a0.f_size.f_Cols, a0.f_cells, a0.f_cursor) () (.c .z (.c (.s .z) (.c (.s (.s .z)) (.c (.s (.s (.s .z))) (.c (.s (.s (.s (.s .z)))) (.c (.s (.s (.s (.s (.s .z))))) (.c (.s (.s (.s (.s (.s (.s .z)))))) (.c (.s (.s (.s (.s (.s (.s (.s .z))))))) .n)))))))) (.c .z (.c .z (.c .z (.c .z .nil)))) (fun _ => rfl) (fun n11 I12 h13 s9 x10 => ?_) (fun s26 x27 => ?_)
      · rw [paint_Paint_l1]
        refine cSeq ?_
        refine cRegion ?_
        refine lRd (dLt (.t .z) (.t (.s .z))) rfl rfl ?_
        refine lNil ?_
        refine xCode ?_
        refine cSeq ?_
        refine cCond (.t .z) (fun h14 => ?_) (fun h14 => ?_)
        · refine cSkip ?_
          refine xCode ?_
          refine cSeq ?_
          refine cBlock ?_
          refine cSeq ?_
          refine cRegion ?_
          refine lRd (dMove (.t (.s .z))) rfl rfl ?_
          refine lIx fun y15 h16 h17 => ?_
          refine lRd (dIxAddr (slRo (.s (.s (.s .z)))) und_55 siz_97 (.t (.s (.s (.s (.s .z))))) (.t (.s (.s .z))) h16 h17) rfl rfl ?_
          refine lCh (cLoadRo (X := Value × Value) (.s (.s (.s .z))) (fun x18 => [vB y15.f_Kind, .int .i64 y15.f_Addr, vB y15.f_Byte, .bool y15.f_GE, x18.1, x18.2]) (fun x18 => [.ro (kSl k_api_Pair) [x18.1] y15.f_Pairs, .ro (kSl kB) [x18.2] y15.f_Data]) agg_97 siz_97 rfl (.t .z) h17 (open_api_Order _)) rfl rfl fun x18 => ?_
          refine lCh (cAlloc (cs := [vB 0, .int .i64 0, vB 0, .bool false, .slice none 0 0, .slice none 0 0]) zer_97 rfl) rfl rfl fun b19 => ?_
          refine lRd (dAssign (.t (.s (.s (.s .z))))) rfl rfl ?_
          refine lFact (oneRo (.s .z)) fun h20 => ?_
          refine lFact (oneRo (.s (.s .z))) fun h21 => ?_
          refine lChU (uStoreA (us := [vB y15.f_Kind, .int .i64 y15.f_Addr, vB y15.f_Byte, .bool y15.f_GE, x18.1, x18.2]) (cs' := [vB y15.f_Kind, .int .i64 y15.f_Addr, vB y15.f_Byte, .bool y15.f_GE, x18.1, x18.2]) .z siz_97 rfl (by intro u hu; simp only [List.mem_cons, List.not_mem_nil, or_false] at hu; rcases hu with rfl | rfl | rfl | rfl | rfl | rfl <;> first | rfl | assumption) rfl (by simp) (.t (.s .z)) (.t (.s (.s .z)))) ?_
          refine lNil ?_
          refine xCode ?_
          refine cSeq ?_
          refine cRegion ?_
          refine lRd (dMove (.t (.s (.s (.s (.s (.s (.s (.s (.s (.s .z))))))))))) rfl rfl ?_
          refine lRd (dLoadA (us := [vB y15.f_Kind, .int .i64 y15.f_Addr, vB y15.f_Byte, .bool y15.f_GE, x18.1, x18.2]) .z agg_97 siz_97 rfl (.t (.s (.s .z))) rfl) rfl rfl ?_
          refine lCall fok_72 (.c (.t (.s .z)) (.c (.t .z) .n)) (paint_brush_do_c K (⟨(⟨(⟨s9.2.2.2.2.2.2.2.2.1, s9.2.2.2.2.2.2.2.2.2.1⟩ : api_Size), s9.2.2.2.2.2.2.2.2.2.2.1, s9.2.2.2.2.2.2.2.2.2.2.2⟩ : plane_Plane), s9.2.1, (⟨s9.2.2.1, s9.2.2.2.1, s9.2.2.2.2.1, s9.2.2.2.2.2.1, s9.2.2.2.2.2.2.1⟩ : api_Cell), s9.2.2.2.2.2.2.2.1⟩ : paint_brush) y15 b8 b0_0 v0_1 x18.1 x18.2) (.c (.s (.s (.s .z))) (.c (.s (.s (.s .z))) (.c (.s (.s (.s .z))) (.r (.s .z) (.r (.s (.s .z)) .n))))) rfl rfl fun o22 x23 h24 => ?_
          refine lRd (dAssign (.t .z)) rfl rfl ?_
          refine lNil ?_
          refine xCode ?_
          refine cSeq ?_
          refine cRegion ?_
          refine lRd (dMove (.t .z)) rfl rfl ?_
          refine lRd (dNe (.t .z) (.c rfl)) rfl rfl ?_
          refine lNil ?_
          refine xCode ?_
          refine cCond (.t .z) (fun h25 => ?_) (fun h25 => ?_)
          · refine cSeq ?_
            refine cRegion ?_
            refine lRd (dMove (.t (.s (.s (.s (.s (.s (.s (.s (.s (.s (.s (.s (.s (.s (.s (.s .z))))))))))))))))) rfl rfl ?_
            refine lRd (dNil (.t .z)) rfl rfl ?_
            refine lRd (dFld fld_123_1 (by decide) (.t .z) rfl) rfl rfl ?_
            refine lRd (dLoad .z agg_3 (.t .z) rfl) rfl rfl ?_
            refine lRd (dMove (.t (.s (.s (.s (.s (.s (.s (.s (.s (.s (.s .z)))))))))))) rfl rfl ?_
            refine lRd (dMove (.t (.s (.s (.s (.s (.s (.s (.s .z))))))))) rfl rfl ?_
            refine lRdK (dAssign (.t (.s (.s .z)))) (.k (.k (.k (.k (.k (.k (.k (.k (.k (.k (.k (.k (.k (.k (.k (.k (.k (.k (.k (.k (.k (.k (.k (.k (.d (Keep.refl _)))))))))))))))))))))))))) rfl rfl ?_
            refine lRdK (dAssign (.t (.s (.s .z)))) (.k (.k (.k (.k (.k (.k (.k (.k (.k (.k (.k (.k (.k (.k (.k (.k (.k (.k (.k (.k (.k (.k (.k (.k (.d (Keep.refl _)))))))))))))))))))))))))) rfl rfl ?_
            refine lRdK (dAssign (.t (.s (.s .z)))) (.k (.k (.k (.k (.k (.k (.k (.k (.k (.k (.k (.k (.k (.k (.k (.k (.k (.k (.k (.k (.k (.k (.k (.k (.d (Keep.refl _)))))))))))))))))))))))))) rfl rfl ?_
            refine lNil ?_
            refine xCode ?_
            refine cRet ?_
            refine rInner ?_
            refine rLeave hD ?_
            exact lvRet (rs := [.tmp 6, .tmp 7, .tmp 8]) rfl (.t (.s (.s .z)) (.t (.s .z) (.t .z .n))) () rfl (.c (.s .z) (.c (.s .z) .nil))
          · refine cSkip ?_
            refine xBlock ?_
            refine xCode ?_
            refine cRegion ?_
            refine lRd (dAddI (.t (.s (.s (.s (.s (.s (.s (.s (.s (.s (.s (.s (.s .z))))))))))))) (.c rfl)) rfl rfl ?_
            refine lRdK (dMove (.t .z)) (.k (.k (.k (.k (.k (.k (.k (.k (.k (.k (.k (.k (.k (.d (Keep.refl _))))))))))))))) rfl rfl ?_
            refine lNil ?_
            exact xRound h13 (w64 (s9.1 + 1), o22.1.f_at, o22.1.f_look.f_Byte, o22.1.f_look.f_GE, o22.1.f_look.f_Start, o22.1.f_look.f_Light, o22.1.f_look.f_Color, o22.1.f_laid, o22.1.f_p.f_size.f_Rows, o22.1.f_p.f_size.f_Cols, o22.1.f_p.f_cells, o22.1.f_p.f_cursor) () (.c .z (.c (.s (.s (.s (.s (.s (.s (.s (.s (.s (.s (.s (.s (.s (.s .z)))))))))))))) (.c (.s (.s (.s (.s (.s (.s (.s (.s (.s (.s (.s (.s (.s (.s (.s .z))))))))))))))) (.c (.s (.s (.s (.s (.s (.s (.s (.s (.s (.s (.s (.s (.s (.s (.s (.s .z)))))))))))))))) (.c (.s (.s (.s (.s (.s (.s (.s (.s (.s (.s (.s (.s (.s (.s (.s (.s (.s .z))))))))))))))))) (.c (.s (.s (.s (.s (.s (.s (.s (.s (.s (.s (.s (.s (.s (.s (.s (.s (.s (.s .z)))))))))))))))))) (.c (.s (.s (.s (.s (.s (.s (.s (.s (.s (.s (.s (.s (.s (.s (.s (.s (.s (.s (.s .z))))))))))))))))))) (.c (.s (.s (.s (.s (.s (.s (.s (.s (.s (.s (.s (.s (.s (.s (.s (.s (.s (.s (.s (.s .z)))))))))))))))))))) .n)))))))) (.c .z (.c .z (.c .z (.c (.s (.s (.s .z))) .nil))))
        · refine cExit ?_
          refine xOver ?_
          refine xOverF ?_
          exact xBreakR (s9.2.1, s9.2.2.1, s9.2.2.2.1, s9.2.2.2.2.1, s9.2.2.2.2.2.1, s9.2.2.2.2.2.2.1, s9.2.2.2.2.2.2.2.1, s9.2.2.2.2.2.2.2.2.1, s9.2.2.2.2.2.2.2.2.2.1, s9.2.2.2.2.2.2.2.2.2.2.1, s9.2.2.2.2.2.2.2.2.2.2.2) () (.c (.s (.s (.s (.s .z)))) (.c (.s (.s (.s (.s (.s .z))))) (.c (.s (.s (.s (.s (.s (.s .z)))))) (.c (.s (.s (.s (.s (.s (.s (.s .z))))))) (.c (.s (.s (.s (.s (.s (.s (.s (.s .z)))))))) .n))))) (.c .z (.c .z (.c .z (.c .z .nil))))
      · refine xCode ?_
        refine cSeq ?_
        refine cRegion ?_
        refine lRd (dMove (.t .z)) rfl rfl ?_
        refine lRd (dNil (.t .z)) rfl rfl ?_
        refine lRd (dFld fld_123_1 (by decide) (.t .z) rfl) rfl rfl ?_
        refine lRd (dLoad .z agg_3 (.t .z) rfl) rfl rfl ?_
        refine lRd (dMove (.t (.s (.s (.s (.s (.s (.s (.s (.s .z)))))))))) rfl rfl ?_
        refine lRd (dLen (at_ := #[55]) (slRo (.s (.s (.s .z)))) rfl und_55 (.t .z)) rfl rfl ?_
        refine lRdK (dAssign (.t (.s (.s .z)))) (.k (.k (.k (.k (.k (.k (.k (.k (.k (.d (Keep.refl _))))))))))) rfl rfl ?_
        refine lRdK (dAssign (.t (.s .z))) (.k (.k (.k (.k (.k (.k (.k (.k (.k (.d (Keep.refl _))))))))))) rfl rfl ?_
        refine lRdK (dAssign (.c rfl)) (.k (.k (.k (.k (.k (.k (.k (.k (.k (.d (Keep.refl _))))))))))) rfl rfl ?_
        refine lKeep (.k (.k (.k .n))) ?_
        refine lNil ?_
        refine xCode ?_
        refine cRet ?_
        refine rLeave hD ?_
        exact lvRet (rs := [.tmp 6, .tmp 7, .tmp 8]) rfl (.t (.s (.s .z)) (.t (.s .z) (.t .z .n))) () rfl (.c (.s .z) (.c (.s .z) .nil))

-- greenscreen/command.Restore
def command_Restore_m (a0 : UInt8) : Option (Bool) := some (decide ((a0 &&& (2 : UInt8)) ≠ (0 : UInt8)))
theorem command_Restore_c (a0 : UInt8) : Con Try.prog 51 #[vB a0] [] (command_Restore_m a0) (fun (o : Bool) (x : Unit) => .bool o) (fun (o : Bool) (x : Unit) => []) := by
  unfold command_Restore_m
  refine con (args := [vB a0]) Try.func51 rfl 6 rfl (.c .n) rfl fun c hD hrn => ?_
  refine cSeq ?_
  refine cRegion ?_
  refine lRd (dAssign (.c rfl)) rfl rfl ?_
  refine lNil ?_
  refine xCode ?_
  refine cSeq ?_
  refine cRegion ?_
  refine lRd (dMove (.t (.s .z))) rfl rfl ?_
  refine lRd (dAndB (.t .z) (.c (v' := vB 2) rfl)) rfl rfl ?_
  refine lRd (dNeB (.t .z) (.c (v' := vB 0) rfl)) rfl rfl ?_
  refine lRdK (dAssign (.t .z)) (.k (.k (.k (.d (Keep.refl _))))) rfl rfl ?_
  refine lKeep (.k .n) ?_
  refine lNil ?_
  refine xCode ?_
  refine cRet ?_
  refine rLeave hD ?_
  exact lvRet (rs := [.tmp 2]) rfl (.t .z .n) () rfl .nil

-- greenscreen/command.Alarm
def command_Alarm_m (a0 : UInt8) : Option (Bool) := some (decide ((a0 &&& (4 : UInt8)) ≠ (0 : UInt8)))
theorem command_Alarm_c (a0 : UInt8) : Con Try.prog 52 #[vB a0] [] (command_Alarm_m a0) (fun (o : Bool) (x : Unit) => .bool o) (fun (o : Bool) (x : Unit) => []) := by
  unfold command_Alarm_m
  refine con (args := [vB a0]) Try.func52 rfl 6 rfl (.c .n) rfl fun c hD hrn => ?_
  refine cSeq ?_
  refine cRegion ?_
  refine lRd (dAssign (.c rfl)) rfl rfl ?_
  refine lNil ?_
  refine xCode ?_
  refine cSeq ?_
  refine cRegion ?_
  refine lRd (dMove (.t (.s .z))) rfl rfl ?_
  refine lRd (dAndB (.t .z) (.c (v' := vB 4) rfl)) rfl rfl ?_
  refine lRd (dNeB (.t .z) (.c (v' := vB 0) rfl)) rfl rfl ?_
  refine lRdK (dAssign (.t .z)) (.k (.k (.k (.d (Keep.refl _))))) rfl rfl ?_
  refine lKeep (.k .n) ?_
  refine lNil ?_
  refine xCode ?_
  refine cRet ?_
  refine rLeave hD ?_
  exact lvRet (rs := [.tmp 2]) rfl (.t .z .n) () rfl .nil

-- (*greenscreen/screen.Screen).write
def screen_Screen_write_m (K : Nat) (a0 : screen_Screen) (a1 : command_Command) (a2 : Int) : Option (screen_Screen × screen_Result) := (paint_Paint_m K a0.f_p a1.f_Orders a2).bind fun o3 => ((if o3.2.2.2 = 0 then some a1.f_Err else some o3.2.2.2)).bind fun (s7 : Int) => (if s7 ≠ 0 then some ((⟨a0.f_sizes_0, a0.f_sizes_1, a0.f_which, o3.1⟩ : screen_Screen), (⟨0, false, false, s7⟩ : screen_Result)) else (command_Restore_m a1.f_WCC).bind fun o10 => (command_Alarm_m a1.f_WCC).bind fun o13 => some ((⟨a0.f_sizes_0, a0.f_sizes_1, a0.f_which, o3.1⟩ : screen_Screen), (⟨0, o10, o13, 0⟩ : screen_Result)))
theorem screen_Screen_write_c (K : Nat) (a0 : screen_Screen) (a1 : command_Command) (a2 : Int) (b0_0 : Nat) (b0_1 : Nat) (v0_2 : Value) (v1_0 : Value) (v1_1 : Value) : Con Try.prog 34 #[.pointer (some ⟨b0_0, 0, none⟩), .agg #[vB a1.f_Kind, vB a1.f_WCC, v1_0, .int .i64 a1.f_Err, v1_1], .int .i64 a2] [.blk b0_0 [.int .i64 a0.f_sizes_0.f_Rows, .int .i64 a0.f_sizes_0.f_Cols, .int .i64 a0.f_sizes_1.f_Rows, .int .i64 a0.f_sizes_1.f_Cols, .int .i64 a0.f_which, .pointer (some ⟨b0_1, 0, none⟩)] 64, .blk b0_1 [.int .i64 a0.f_p.f_size.f_Rows, .int .i64 a0.f_p.f_size.f_Cols, v0_2, .int .i64 a0.f_p.f_cursor] 66, .own v0_2 44 k_api_Cell a0.f_p.f_cells, .ro (kSl k_api_Order) [v1_0] a1.f_Orders, .ro (kSl k_command_Field) [v1_1] a1.f_Fields] (screen_Screen_write_m K a0 a1 a2) (fun (o : screen_Screen × screen_Result) (x : Unit) => .agg #[vB o.2.f_Reply, .bool o.2.f_Restore, .bool o.2.f_Alarm, .int .i64 o.2.f_Err]) (fun (o : screen_Screen × screen_Result) (x : Unit) => [.blk b0_0 [.int .i64 o.1.f_sizes_0.f_Rows, .int .i64 o.1.f_sizes_0.f_Cols, .int .i64 o.1.f_sizes_1.f_Rows, .int .i64 o.1.f_sizes_1.f_Cols, .int .i64 o.1.f_which, .pointer (some ⟨b0_1, 0, none⟩)] 64, .blk b0_1 [.int .i64 o.1.f_p.f_size.f_Rows, .int .i64 o.1.f_p.f_size.f_Cols, v0_2, .int .i64 o.1.f_p.f_cursor] 66, .own v0_2 44 k_api_Cell o.1.f_p.f_cells]) := by
  unfold screen_Screen_write_m
  refine con (args := [.pointer (some ⟨b0_0, 0, none⟩), .agg #[vB a1.f_Kind, vB a1.f_WCC, v1_0, .int .i64 a1.f_Err, v1_1], .int .i64 a2]) Try.func34 rfl 37 rfl (.c (.c (.c .n))) rfl fun c hD hrn => ?_
  refine cSeq ?_
  refine cRegion ?_
  refine lCh (cBox (cs := [vB a1.f_Kind, vB a1.f_WCC, v1_0, .int .i64 a1.f_Err, v1_1]) (.t (.s .z)) rfl) rfl rfl fun b1 => ?_
  refine lCh (cAlloc (cs := [vB 0, .bool false, .bool false, .int .i64 0]) zer_37 rfl) rfl rfl fun b2 => ?_
  refine lKeep (.k (.k (.k (.d (.k .n))))) ?_
  refine lNil ?_
  refine xCode ?_
  refine cSeq ?_
  refine cRegionM [7] [(0, .early), (1, .early), (2, .early), (3, .early), (4, .early), (5, .early), (6, .early), (7, .only), (8, .quiet), (9, .quiet), (10, .quiet), (11, .quiet), (12, .quiet), (13, .quiet), (14, .quiet)] mixed (by kernel_rfl) (.c .z (.c .z (.c .z (.c (.s (.s .z)) (.c (.s (.s .z)) (.c .z (.c .z .nil))))))) (.c (.c (.c (.c (.c .n))))) ?_
  refine mRd rfl rfl (fun _ _ _ => dMove (.t (.s (.s .z)))) rfl rfl ?_
  refine mRd rfl rfl (fun _ _ _ => dNil (.t .z)) rfl rfl ?_
  refine mRd rfl rfl (fun _ _ _ => dFld fld_64_2 (by decide) (.t .z) rfl) rfl rfl ?_
  refine mRd rfl rfl (fun _ _ _ => dLoad (.s (.s .z)) agg_39 (.t .z) rfl) rfl rfl ?_
  refine mRd rfl rfl (fun _ _ _ => dFld fld_58_2 (by decide) (.t (.s (.s (.s (.s (.s .z)))))) rfl) rfl rfl ?_
  refine mRd rfl rfl (fun _ _ _ => dLoad (.s .z) agg_55 (.t .z) rfl) rfl rfl ?_
  refine mRd rfl rfl (fun _ _ _ => dMove (.t (.s (.s (.s (.s (.s (.s (.s (.s (.s .z))))))))))) rfl rfl ?_
  refine mCall rfl rfl fok_50 (.c (.t (.s (.s (.s .z)))) (.c (.t (.s .z)) (.c (.t .z) .n))) (paint_Paint_c K a0.f_p a1.f_Orders a2 b0_1 v0_2 v1_0) (.c (.s (.s (.s (.s (.s .z))))) (.c (.s (.s (.s (.s (.s .z))))) (.r (.s (.s (.s .z))) .n))) (fun o3 x4 => (.c (.s (.s .z)) (.c (.s (.s .z)) (.c (.s (.s .z)) (.c (.s (.s .z)) (.c (.s (.s .z)) (.c .z (.c .z .nil)))))))) (fun _ _ => (.c (.c (.c (.c (.c .n)))))) rfl rfl fun o3 x4 h5  => ?_
  refine mRd rfl rfl (fun _ _ _ => dMove (.t .z)) rfl rfl ?_
  refine mRd rfl rfl (fun _ _ _ => dExtract (.t .z) rfl) rfl rfl ?_
  refine mRd rfl rfl (fun _ _ _ => dExtract (.t (.s .z)) rfl) rfl rfl ?_
  refine mRd rfl rfl (fun _ _ _ => dExtract (.t (.s (.s .z))) rfl) rfl rfl ?_
  refine mRdN rfl rfl (fun _ _ _ => dAssign (.t (.s (.s .z)))) rfl ?_
  refine mRdN rfl rfl (fun _ _ _ => dAssign (.t (.s .z))) rfl ?_
  refine mRd rfl rfl (fun _ _ _ => dAssign (.t .z)) rfl rfl ?_
  refine mKeep (.k (.d (.d (.d (.d (.d (.d (.d (.d (.d (.d (.d (.d (.k (.k .n))))))))))))))) ?_
  refine mNil ?_
  refine xCode ?_
  refine cSeq ?_
  refine cSeq ?_
  refine cRegion ?_
  refine lRd (dMove (.t .z)) rfl rfl ?_
  refine lRd (dEq (.t .z) (.c rfl)) rfl rfl ?_
  refine lKeep (.k (.d (.k (.k (.k .n))))) ?_
  refine lNil ?_
  refine xCode ?_
  refine cJoin (S := Int) (X := Unit) (fun (s : Int) (x : Unit) => [(9, .int .i64 s), (6, .pointer (some ⟨b2, 0, none⟩)), (4, .pointer (some ⟨b1, 0, none⟩))]) (fun (s : Int) (x : Unit) => [.blk b2 [vB 0, .bool false, .bool false, .int .i64 0] 37, .blk b1 [vB a1.f_Kind, vB a1.f_WCC, v1_0, .int .i64 a1.f_Err, v1_1] 58, .blk b0_0 [.int .i64 a0.f_sizes_0.f_Rows, .int .i64 a0.f_sizes_0.f_Cols, .int .i64 a0.f_sizes_1.f_Rows, .int .i64 a0.f_sizes_1.f_Cols, .int .i64 a0.f_which, .pointer (some ⟨b0_1, 0, none⟩)] 64, .ro (kSl k_api_Order) [v1_0] a1.f_Orders, .ro (kSl k_command_Field) [v1_1] a1.f_Fields, .blk b0_1 [.int .i64 o3.1.f_size.f_Rows, .int .i64 o3.1.f_size.f_Cols, v0_2, .int .i64 o3.1.f_cursor] 66, .own v0_2 44 k_api_Cell o3.1.f_cells]) ?_ (fun s7 x8 => ?_)
  · refine cCond (.t .z) (fun h6 => ?_) (fun h6 => ?_)
    · refine cRegion ?_
      refine lRd (dFld fld_58_3 (by decide) (.t (.s (.s (.s .z)))) rfl) rfl rfl ?_
      refine lRd (dLoad (.s .z) agg_35 (.t .z) rfl) rfl rfl ?_
      refine lRdK (dAssign (.t .z)) (.k (.k (.k (.d (Keep.refl _))))) rfl rfl ?_
      refine lKeep (.k (.d (.d (.d (.k (.k .n)))))) ?_
      refine lNil ?_
      exact xJoin a1.f_Err () (.c .z (.c (.s .z) (.c (.s (.s .z)) .n))) (.c .z (.c .z (.c .z (.c .z (.c .z (.c .z (.c .z .nil)))))))
    · refine cSkip ?_
      exact xJoin o3.2.2.2 () (.c (.s .z) (.c (.s (.s .z)) (.c (.s (.s (.s .z))) .n))) (.c .z (.c .z (.c .z (.c .z (.c .z (.c .z (.c .z .nil)))))))
  · refine xCode ?_
    refine cSeq ?_
    refine cSeq ?_
    refine cRegion ?_
    refine lRd (dMove (.t .z)) rfl rfl ?_
    refine lRd (dNe (.t .z) (.c rfl)) rfl rfl ?_
    refine lKeep (.k (.d (.k (.k (.k .n))))) ?_
    refine lNil ?_
    refine xCode ?_
    refine cCond (.t .z) (fun h9 => ?_) (fun h9 => ?_)
    · refine cSeq ?_
      refine cRegion ?_
      refine lRd (dMove (.t (.s .z))) rfl rfl ?_
      refine lRd (dBuild (cs := [vB 0, .bool false, .bool false, .int .i64 s7]) zer_37 rfl plc_37 (.c (.t .z) .n) rfl) rfl rfl ?_
      refine lChU (uStoreA (us := [vB 0, .bool false, .bool false, .int .i64 s7]) (cs' := [vB 0, .bool false, .bool false, .int .i64 s7]) .z siz_37 rfl (by intro u hu; simp only [List.mem_cons, List.not_mem_nil, or_false] at hu; rcases hu with rfl | rfl | rfl | rfl <;> first | rfl | assumption) rfl (by simp) (.t (.s (.s (.s (.s .z))))) (.t .z)) ?_
      refine lKeep (.d (.d (.d (.d (.k (.k .n)))))) ?_
      refine lNil ?_
      refine xCode ?_
      refine cRet ?_
      refine rLeave hD ?_
      exact lvRet (rs := [.cell 6 37]) rfl (.a .z .z agg_37 siz_37 .n) () rfl (.c (.s (.s .z)) (.c (.s (.s (.s (.s .z)))) (.c (.s (.s (.s (.s .z)))) .nil)))
    · refine cSkip ?_
      refine xCode ?_
      refine cSeq ?_
      refine cRegionM [7] [(0, .early), (1, .early), (2, .early), (3, .early), (4, .early), (5, .early), (6, .early), (7, .only)] mixed (by kernel_rfl) (.c (.s .z) (.c (.s .z) (.c (.s .z) (.c (.s .z) (.c (.s .z) (.c (.s .z) (.c .z .nil))))))) (.c (.c (.c (.c (.c (.c .n)))))) ?_
      refine mRd rfl rfl (fun _ _ _ => dFld fld_58_1 (by decide) (.t (.s (.s (.s .z)))) rfl) rfl rfl ?_
      refine mRd rfl rfl (fun _ _ _ => dLoad .z agg_5 (.t .z) rfl) rfl rfl ?_
      refine mCallQ rfl rfl fok_51 (.c (.t .z) .n) (command_Restore_c a1.f_WCC) .n (fun _ _ => rfl) (fun _ _ => (.c .z (.c .z (.c .z (.c .z (.c .z (.c .z (.c .z .nil)))))))) rfl rfl fun o10 h12 => ?_
      refine mRd rfl rfl (fun _ _ _ => dFld fld_58_1 (by decide) (.t (.s (.s (.s (.s (.s (.s .z))))))) rfl) rfl rfl ?_
      refine mRd rfl rfl (fun _ _ _ => dLoad .z agg_5 (.t .z) rfl) rfl rfl ?_
      refine mCallQ rfl rfl fok_52 (.c (.t .z) .n) (command_Alarm_c a1.f_WCC) .n (fun _ _ => rfl) (fun _ _ => (.c .z (.c .z (.c .z (.c .z (.c .z (.c .z (.c .z .nil)))))))) rfl rfl fun o13 h15 => ?_
      refine mRd rfl rfl (fun _ _ _ => dBuild (cs := [vB 0, .bool o10, .bool o13, .int .i64 0]) zer_37 rfl plc_37 (.c (.t (.s (.s (.s .z)))) (.c (.t .z) .n)) rfl) rfl rfl ?_
      refine mChU rfl rfl (uStoreA (us := [vB 0, .bool o10, .bool o13, .int .i64 0]) (cs' := [vB 0, .bool o10, .bool o13, .int .i64 0]) (.s (.s (.s (.s (.s (.s .z)))))) siz_37 rfl (by intro u hu; simp only [List.mem_cons, List.not_mem_nil, or_false] at hu; rcases hu with rfl | rfl | rfl | rfl <;> first | rfl | assumption) rfl (by simp) (.t (.s (.s (.s (.s (.s (.s (.s (.s (.s .z)))))))))) (.t .z)) (.c .z (.c .z (.c .z (.c .z (.c .z (.c .z (.c .z .nil))))))) (.c (.c (.c (.c (.c (.c .n)))))) ?_
      refine mKeep (.d (.d (.d (.d (.d (.d (.d (.d (.d (.k .n)))))))))) ?_
      refine mNil ?_
      refine xCode ?_
      refine cRet ?_
      refine rLeave hD ?_
      exact lvRet (rs := [.cell 6 37]) rfl (.a .z (.s (.s (.s (.s (.s (.s .z)))))) agg_37 siz_37 .n) () rfl (.c (.s .z) (.c (.s (.s (.s .z))) (.c (.s (.s (.s .z))) .nil)))

-- (*greenscreen/plane.Plane).Cursor
def plane_Plane_Cursor_m (a0 : plane_Plane) : Option (Int) := some a0.f_cursor
theorem plane_Plane_Cursor_c (a0 : plane_Plane) (b0_0 : Nat) (v0_1 : Value) : Con Try.prog 35 #[.pointer (some ⟨b0_0, 0, none⟩)] [.blk b0_0 [.int .i64 a0.f_size.f_Rows, .int .i64 a0.f_size.f_Cols, v0_1, .int .i64 a0.f_cursor] 66, .own v0_1 44 k_api_Cell a0.f_cells] (plane_Plane_Cursor_m a0) (fun (o : Int) (x : Unit) => .int .i64 o) (fun (o : Int) (x : Unit) => [.blk b0_0 [.int .i64 a0.f_size.f_Rows, .int .i64 a0.f_size.f_Cols, v0_1, .int .i64 a0.f_cursor] 66, .own v0_1 44 k_api_Cell a0.f_cells]) := by
  unfold plane_Plane_Cursor_m
  refine con (args := [.pointer (some ⟨b0_0, 0, none⟩)]) Try.func35 rfl 7 rfl (.c .n) rfl fun c hD hrn => ?_
  refine cSeq ?_
  refine cRegion ?_
  refine lRd (dAssign (.c rfl)) rfl rfl ?_
  refine lNil ?_
  refine xCode ?_
  refine cSeq ?_
  refine cRegion ?_
  refine lRd (dMove (.t (.s .z))) rfl rfl ?_
  refine lRd (dNil (.t .z)) rfl rfl ?_
  refine lRd (dFld fld_66_2 (by decide) (.t .z) rfl) rfl rfl ?_
  refine lRd (dLoad .z agg_3 (.t .z) rfl) rfl rfl ?_
  refine lRdK (dAssign (.t .z)) (.k (.k (.k (.k (.d (Keep.refl _)))))) rfl rfl ?_
  refine lKeep (.k .n) ?_
  refine lNil ?_
  refine xCode ?_
  refine cRet ?_
  refine rLeave hD ?_
  exact lvRet (rs := [.tmp 2]) rfl (.t .z .n) () rfl (.c .z (.c .z .nil))

-- greenscreen/plane.New
def plane_New_m (a0 : api_Size) : Option (Sum (plane_Plane) (Unit)) := (addr_Cells_m a0).bind fun o2 => (if o2 = 0 then some (Sum.inr ()) else (SX.mk o2 (⟨0, false, false, 0, 0⟩ : api_Cell)).bind fun zs6 => some (Sum.inl (⟨a0, zs6, 0⟩ : plane_Plane)))
theorem plane_New_c (a0 : api_Size) : Con Try.prog 40 #[.agg #[.int .i64 a0.f_Rows, .int .i64 a0.f_Cols]] [] (plane_New_m a0) (resS (fun (o : plane_Plane) (x : (Nat × Value) × (Unit)) => .tuple #[.pointer (some ⟨x.1.1, 0, none⟩), .int .i64 0]) (fun (e : Unit) (x : (Nat × Value) × (Unit)) => .tuple #[.pointer none, .int .i64 1])) (loE (fun (o : plane_Plane) (x : (Nat × Value) × (Unit)) => [.blk x.1.1 [.int .i64 o.f_size.f_Rows, .int .i64 o.f_size.f_Cols, x.1.2, .int .i64 o.f_cursor] 66, .own x.1.2 44 k_api_Cell o.f_cells]) (fun (e : Unit) (x : (Nat × Value) × (Unit)) => [])) := by
  unfold plane_New_m
  refine con (args := [.agg #[.int .i64 a0.f_Rows, .int .i64 a0.f_Cols]]) Try.func40 rfl 14 rfl (.c .n) rfl fun c hD hrn => ?_
  refine cSeq ?_
  refine cRegion ?_
  refine lCh (cBox (cs := [.int .i64 a0.f_Rows, .int .i64 a0.f_Cols]) (.t .z) rfl) rfl rfl fun b1 => ?_
  refine lRd (dAssign (.c rfl)) rfl rfl ?_
  refine lRd (dAssign (.c rfl)) rfl rfl ?_
  refine lKeep (.k (.k (.k .n))) ?_
  refine lNil ?_
  refine xCode ?_
  refine cSeq ?_
  refine cRegion ?_
  refine lRd (dLoadA (us := [.int .i64 a0.f_Rows, .int .i64 a0.f_Cols]) .z agg_23 siz_23 rfl (.t (.s (.s .z))) rfl) rfl rfl ?_
  refine lCall fok_24 (.c (.t .z) .n) (addr_Cells_c a0) .n rfl rfl fun o2 x3 h4 => ?_
  refine lRd (dAssign (.t .z)) rfl rfl ?_
  refine lKeep (.k (.d (.d (.k (.k (.k .n)))))) ?_
  refine lNil ?_
  refine xCode ?_
  refine cSeq ?_
  refine cSeq ?_
  refine cRegion ?_
  refine lRd (dMove (.t .z)) rfl rfl ?_
  refine lRd (dEq (.t .z) (.c rfl)) rfl rfl ?_
  refine lKeep (.k (.d (.k (.k (.k (.k .n)))))) ?_
  refine lNil ?_
  refine xCode ?_
  refine cCond (.t .z) (fun h5 => ?_) (fun h5 => ?_)
  · refine cSeq ?_
    refine cRegion ?_
    refine lRdK (dAssign (.c rfl)) (.k (.k (.k (.d (Keep.refl _))))) rfl rfl ?_
    refine lRdK (dAssign (.c rfl)) (.k (.k (.k (.d (Keep.refl _))))) rfl rfl ?_
    refine lKeep (.k (.k (.d (.k (.k .n))))) ?_
    refine lNil ?_
    refine xCode ?_
    refine cRet ?_
    refine rLeave hD ?_
    exact lvRet (rs := [.tmp 2, .tmp 3]) rfl (.t (.s .z) (.t .z .n)) ((0, undef), ()) rfl .nil
  · refine cSkip ?_
    refine xCode ?_
    refine cSeq ?_
    refine cRegionM [2, 4] [(0, .quiet), (1, .early), (2, .only), (3, .quiet), (4, .only), (5, .quiet), (6, .quiet)] mixed (by kernel_rfl) (.c .z .nil) (.c .n) ?_
    refine mRd rfl rfl (fun _ _ _ => dLoadA (us := [.int .i64 a0.f_Rows, .int .i64 a0.f_Cols]) .z agg_23 siz_23 rfl (.t (.s (.s (.s (.s .z))))) rfl) rfl rfl ?_
    refine mRd rfl rfl (fun _ _ _ => dMove (.t (.s (.s .z)))) rfl rfl ?_
    refine mBind fun zs6 h7 => ?_
    refine mCh rfl rfl (cMake (k := k_api_Cell) (zx := (⟨0, false, false, 0, 0⟩ : api_Cell)) und_27 inf_44 rfl (by decide) zer_44 (fun _ => rfl) (.t .z) (.t .z) h7) (fun b8 => (.c (.s .z) (.c .z .nil))) (fun _ => (.c .n)) rfl rfl fun b8 => ?_
    refine mRd rfl rfl (fun _ _ _ => dBuild (cs := [.int .i64 a0.f_Rows, .int .i64 a0.f_Cols, .slice (some ⟨b8, 0, none⟩) (Int.toNat o2) (Int.toNat o2), .int .i64 0]) zer_66 rfl plc_66 (.c (.t (.s (.s .z))) (.c (.t .z) .n)) rfl) rfl rfl ?_
    refine mCh rfl rfl (cBox (cs := [.int .i64 a0.f_Rows, .int .i64 a0.f_Cols, .slice (some ⟨b8, 0, none⟩) (Int.toNat o2) (Int.toNat o2), .int .i64 0]) (.t .z) rfl) (fun b9 => (.c (.s .z) (.c .z (.c .z .nil)))) (fun _ => (.c .n)) rfl rfl fun b9 => ?_
    refine mRdK rfl rfl (fun _ _ _ => dAssign (.t .z)) (.k (.k (.k (.k (.k (.k (.k (.k (.d (Keep.refl _)))))))))) rfl rfl ?_
    refine mRdK rfl rfl (fun _ _ _ => dAssign (.c rfl)) (.k (.k (.k (.k (.k (.k (.k (.k (.d (Keep.refl _)))))))))) rfl rfl ?_
    refine mKeep (.k (.k .n)) ?_
    refine mNil ?_
    refine xCode ?_
    refine cRet ?_
    refine rLeave hD ?_
    exact lvRet (rs := [.tmp 2, .tmp 3]) rfl (.t (.s .z) (.t .z .n)) ((b9, .slice (some ⟨b8, 0, none⟩) (Int.toNat o2) (Int.toNat o2)), ()) rfl (.c (.s .z) (.c (.s .z) .nil))

-- (*greenscreen/screen.Screen).renew
def screen_Screen_renew_m (a0 : screen_Screen) (a1 : Int) : Option (screen_Screen) := (if a1 = 0 then (plane_New_m a0.f_sizes_0).bind (onE (fun (o2 : plane_Plane) => some (⟨a0.f_sizes_0, a0.f_sizes_1, a1, o2⟩ : screen_Screen)) (fun (o5 : Unit) => none)) else (if a1 = 1 then (plane_New_m a0.f_sizes_1).bind (onE (fun (o9 : plane_Plane) => some (⟨a0.f_sizes_0, a0.f_sizes_1, a1, o9⟩ : screen_Screen)) (fun (o12 : Unit) => none)) else none))
theorem screen_Screen_renew_c (a0 : screen_Screen) (a1 : Int) (b0_0 : Nat) (b0_1 : Nat) (v0_2 : Value) : Con Try.prog 25 #[.pointer (some ⟨b0_0, 0, none⟩), .int .i64 a1] [.blk b0_0 [.int .i64 a0.f_sizes_0.f_Rows, .int .i64 a0.f_sizes_0.f_Cols, .int .i64 a0.f_sizes_1.f_Rows, .int .i64 a0.f_sizes_1.f_Cols, .int .i64 a0.f_which, .pointer (some ⟨b0_1, 0, none⟩)] 64, .blk b0_1 [.int .i64 a0.f_p.f_size.f_Rows, .int .i64 a0.f_p.f_size.f_Cols, v0_2, .int .i64 a0.f_p.f_cursor] 66, .own v0_2 44 k_api_Cell a0.f_p.f_cells] (screen_Screen_renew_m a0 a1) (fun (o : screen_Screen) (x : Nat × Value) => .tuple #[]) (fun (o : screen_Screen) (x : Nat × Value) => [.blk b0_0 [.int .i64 o.f_sizes_0.f_Rows, .int .i64 o.f_sizes_0.f_Cols, .int .i64 o.f_sizes_1.f_Rows, .int .i64 o.f_sizes_1.f_Cols, .int .i64 o.f_which, .pointer (some ⟨x.1, 0, none⟩)] 64, .blk x.1 [.int .i64 o.f_p.f_size.f_Rows, .int .i64 o.f_p.f_size.f_Cols, x.2, .int .i64 o.f_p.f_cursor] 66, .own x.2 44 k_api_Cell o.f_p.f_cells]) := by
  unfold screen_Screen_renew_m
  refine con (args := [.pointer (some ⟨b0_0, 0, none⟩), .int .i64 a1]) Try.func25 rfl 21 rfl (.c (.c .n)) rfl fun c hD hrn => ?_
  refine cSeq ?_
  refine cRegion ?_
  refine lRd (dMove (.t .z)) rfl rfl ?_
  refine lRd (dMove (.t (.s (.s .z)))) rfl rfl ?_
  refine lRd (dNil (.t (.s .z))) rfl rfl ?_
  refine lRd (dFld fld_64_1 (by decide) (.t .z) rfl) rfl rfl ?_
  refine lChU (uStore .z siz_3 rfl (.s (.s (.s (.s .z)))) (.t .z) (.t (.s (.s .z)))) ?_
  refine lKeep (.d (.d (.d (.d (.k (.k .n)))))) ?_
  refine lNil ?_
  refine xCode ?_
  refine cRegion ?_
  refine lRd (dMove (.t .z)) rfl rfl ?_
  refine lRd (dMove (.t (.s .z))) rfl rfl ?_
  refine lRd (dMove (.t (.s (.s (.s .z))))) rfl rfl ?_
  refine lRd (dNil (.t (.s .z))) rfl rfl ?_
  refine lRd (dFld fld_64_0 (by decide) (.t .z) rfl) rfl rfl ?_
  refine lCase (fun h1 => ?_) (fun h1 => ?_)
  · refine lRd (dIxArrV h1 und_62 siz_23 (.t .z) (.t (.s (.s .z))) (by decide) (by decide)) rfl rfl ?_
    refine lRd (dLoadA (us := [.int .i64 a0.f_sizes_0.f_Rows, .int .i64 a0.f_sizes_0.f_Cols]) .z agg_23 siz_23 rfl (.t .z) rfl) rfl rfl ?_
    refine lCallS fok_40 (.c (.t .z) .n) (plane_New_c a0.f_sizes_0) .n rfl rfl (fun o2 x3 h4 => ?_) (fun o5 x6 h7 => ?_)
    · refine lRd (dMove (.t .z)) rfl rfl ?_
      refine lRd (dExtract (.t .z) rfl) rfl rfl ?_
      refine lRdN (dExtract (.t (.s .z)) rfl) rfl ?_
      refine lRd (dNil (.t (.s (.s (.s (.s (.s (.s (.s (.s (.s .z))))))))))) rfl rfl ?_
      refine lRd (dFld fld_64_2 (by decide) (.t .z) rfl) rfl rfl ?_
      refine lChU (uStore (.s (.s .z)) siz_39 rfl (.s (.s (.s (.s (.s .z))))) (.t .z) (.t (.s (.s .z)))) ?_
      refine lKeep .n ?_
      refine lNil ?_
      refine xLeave hD ?_
      exact lvRet (rs := []) rfl .n (x3.1.1, x3.1.2) rfl (.c (.s (.s .z)) (.c .z (.c .z .nil)))
    · refine lRd (dMove (.t .z)) rfl rfl ?_
      refine lRd (dExtract (.t .z) rfl) rfl rfl ?_
      refine lRdN (dExtract (.t (.s .z)) rfl) rfl ?_
      refine lRd (dNil (.t (.s (.s (.s (.s (.s (.s (.s (.s (.s .z))))))))))) rfl rfl ?_
      refine lRd (dFld fld_64_2 (by decide) (.t .z) rfl) rfl rfl ?_
      refine lChU (uStore .z siz_39 rfl (.s (.s (.s (.s (.s .z))))) (.t .z) (.t (.s (.s .z)))) ?_
      refine lKeep .n ?_
      refine lNil ?_
      exact xStuck
  · refine lCase (fun h8 => ?_) (fun h8 => ?_)
    · refine lRd (dIxArrV h8 und_62 siz_23 (.t .z) (.t (.s (.s .z))) (by decide) (by decide)) rfl rfl ?_
      refine lRd (dLoadA (us := [.int .i64 a0.f_sizes_1.f_Rows, .int .i64 a0.f_sizes_1.f_Cols]) .z agg_23 siz_23 rfl (.t .z) rfl) rfl rfl ?_
      refine lCallS fok_40 (.c (.t .z) .n) (plane_New_c a0.f_sizes_1) .n rfl rfl (fun o9 x10 h11 => ?_) (fun o12 x13 h14 => ?_)
      · refine lRd (dMove (.t .z)) rfl rfl ?_
        refine lRd (dExtract (.t .z) rfl) rfl rfl ?_
        refine lRdN (dExtract (.t (.s .z)) rfl) rfl ?_
        refine lRd (dNil (.t (.s (.s (.s (.s (.s (.s (.s (.s (.s .z))))))))))) rfl rfl ?_
        refine lRd (dFld fld_64_2 (by decide) (.t .z) rfl) rfl rfl ?_
        refine lChU (uStore (.s (.s .z)) siz_39 rfl (.s (.s (.s (.s (.s .z))))) (.t .z) (.t (.s (.s .z)))) ?_
        refine lKeep .n ?_
        refine lNil ?_
        refine xLeave hD ?_
        exact lvRet (rs := []) rfl .n (x10.1.1, x10.1.2) rfl (.c (.s (.s .z)) (.c .z (.c .z .nil)))
      · refine lRd (dMove (.t .z)) rfl rfl ?_
        refine lRd (dExtract (.t .z) rfl) rfl rfl ?_
        refine lRdN (dExtract (.t (.s .z)) rfl) rfl ?_
        refine lRd (dNil (.t (.s (.s (.s (.s (.s (.s (.s (.s (.s .z))))))))))) rfl rfl ?_
        refine lRd (dFld fld_64_2 (by decide) (.t .z) rfl) rfl rfl ?_
        refine lChU (uStore .z siz_39 rfl (.s (.s (.s (.s (.s .z))))) (.t .z) (.t (.s (.s .z)))) ?_
        refine lKeep .n ?_
        refine lNil ?_
        exact xStuck
    · exact lStuck

-- (*greenscreen/screen.Screen).erase
def screen_Screen_erase_m (K : Nat) (a0 : screen_Screen) (a1 : command_Command) (a2 : Int) : Option (screen_Screen × screen_Result) := (screen_Screen_renew_m a0 a2).bind fun o3 => (screen_Screen_write_m K o3 a1 0).bind fun o6 => some (o6.1, o6.2)
theorem screen_Screen_erase_c (K : Nat) (a0 : screen_Screen) (a1 : command_Command) (a2 : Int) (b0_0 : Nat) (b0_1 : Nat) (v0_2 : Value) (v1_0 : Value) (v1_1 : Value) : Con Try.prog 36 #[.pointer (some ⟨b0_0, 0, none⟩), .agg #[vB a1.f_Kind, vB a1.f_WCC, v1_0, .int .i64 a1.f_Err, v1_1], .int .i64 a2] [.blk b0_0 [.int .i64 a0.f_sizes_0.f_Rows, .int .i64 a0.f_sizes_0.f_Cols, .int .i64 a0.f_sizes_1.f_Rows, .int .i64 a0.f_sizes_1.f_Cols, .int .i64 a0.f_which, .pointer (some ⟨b0_1, 0, none⟩)] 64, .blk b0_1 [.int .i64 a0.f_p.f_size.f_Rows, .int .i64 a0.f_p.f_size.f_Cols, v0_2, .int .i64 a0.f_p.f_cursor] 66, .own v0_2 44 k_api_Cell a0.f_p.f_cells, .ro (kSl k_api_Order) [v1_0] a1.f_Orders, .ro (kSl k_command_Field) [v1_1] a1.f_Fields] (screen_Screen_erase_m K a0 a1 a2) (fun (o : screen_Screen × screen_Result) (x : Nat × Value) => .agg #[vB o.2.f_Reply, .bool o.2.f_Restore, .bool o.2.f_Alarm, .int .i64 o.2.f_Err]) (fun (o : screen_Screen × screen_Result) (x : Nat × Value) => [.blk b0_0 [.int .i64 o.1.f_sizes_0.f_Rows, .int .i64 o.1.f_sizes_0.f_Cols, .int .i64 o.1.f_sizes_1.f_Rows, .int .i64 o.1.f_sizes_1.f_Cols, .int .i64 o.1.f_which, .pointer (some ⟨x.1, 0, none⟩)] 64, .blk x.1 [.int .i64 o.1.f_p.f_size.f_Rows, .int .i64 o.1.f_p.f_size.f_Cols, x.2, .int .i64 o.1.f_p.f_cursor] 66, .own x.2 44 k_api_Cell o.1.f_p.f_cells]) := by
  unfold screen_Screen_erase_m
  refine con (args := [.pointer (some ⟨b0_0, 0, none⟩), .agg #[vB a1.f_Kind, vB a1.f_WCC, v1_0, .int .i64 a1.f_Err, v1_1], .int .i64 a2]) Try.func36 rfl 13 rfl (.c (.c (.c .n))) rfl fun c hD hrn => ?_
  refine cSeq ?_
  refine cRegion ?_
  refine lCh (cBox (cs := [vB a1.f_Kind, vB a1.f_WCC, v1_0, .int .i64 a1.f_Err, v1_1]) (.t (.s .z)) rfl) rfl rfl fun b1 => ?_
  refine lCh (cAlloc (cs := [vB 0, .bool false, .bool false, .int .i64 0]) zer_37 rfl) rfl rfl fun b2 => ?_
  refine lKeep (.k (.k (.k (.d (.k .n))))) ?_
  refine lNil ?_
  refine xCode ?_
  refine cSeq ?_
  refine cRegion ?_
  refine lRd (dMove (.t (.s (.s .z)))) rfl rfl ?_
  refine lRd (dMove (.t (.s (.s (.s (.s .z)))))) rfl rfl ?_
  refine lCallN fok_25 (.c (.t (.s .z)) (.c (.t .z) .n)) (screen_Screen_renew_c a0 a2 b0_0 b0_1 v0_2) (.c (.s (.s .z)) (.c (.s (.s .z)) (.c (.s (.s .z)) .n))) rfl fun o3 x4 h5 => ?_
  refine lKeep (.d (.d (.k (.k (.k .n))))) ?_
  refine lNil ?_
  refine xCode ?_
  refine cSeq ?_
  refine cRegion ?_
  refine lRd (dMove (.t (.s (.s .z)))) rfl rfl ?_
  refine lRd (dLoadA (us := [vB a1.f_Kind, vB a1.f_WCC, v1_0, .int .i64 a1.f_Err, v1_1]) (.s (.s (.s (.s .z)))) agg_58 siz_58 rfl (.t (.s (.s .z))) rfl) rfl rfl ?_
  refine lCall fok_34 (.c (.t (.s .z)) (.c (.t .z) (.c (.c rfl) .n))) (screen_Screen_write_c K o3 a1 0 b0_0 x4.1 x4.2 v1_0 v1_1) (.c .z (.c .z (.c .z (.r (.s (.s .z)) (.r (.s (.s (.s .z))) .n))))) rfl rfl fun o6 x7 h8 => ?_
  refine lChU (uStoreA (us := [vB o6.2.f_Reply, .bool o6.2.f_Restore, .bool o6.2.f_Alarm, .int .i64 o6.2.f_Err]) (cs' := [vB o6.2.f_Reply, .bool o6.2.f_Restore, .bool o6.2.f_Alarm, .int .i64 o6.2.f_Err]) (.s (.s (.s .z))) siz_37 rfl (by intro u hu; simp only [List.mem_cons, List.not_mem_nil, or_false] at hu; rcases hu with rfl | rfl | rfl | rfl <;> first | rfl | assumption) rfl (by simp) (.t (.s (.s (.s .z)))) (.t .z)) ?_
  refine lKeep (.d (.d (.d (.k .n)))) ?_
  refine lNil ?_
  refine xCode ?_
  refine cRet ?_
  refine rLeave hD ?_
  exact lvRet (rs := [.cell 6 37]) rfl (.a .z (.s (.s (.s .z))) agg_37 siz_37 .n) (x4.1, x4.2) rfl (.c .z (.c .z (.c .z .nil)))

-- greenscreen/field.Home
def field_Home_l1 (K : Nat) (a0 : plane_Plane) (o13 : (Int)) : Nat → (Int) → Option (Sum (Unit) (Sum (Unit) (Int)))
  | 0, _ => none
  | n + 1, s16 => (if s16 < o13 then (plane_Plane_At_m a0 s16).bind fun o22 => (if o22.f_Start = true then (field_at_m K a0 s16).bind fun o26 => (((if o26.f_Len > 0 then (attr_Protected_m o26.f_Attr).bind fun o31 => some (!o31) else some false)).bind fun (s34 : Bool) => (if s34 = true then (plane_Plane_Size_m a0).bind fun o37 => (addr_Move_m o37 o26.f_Start 1).bind fun o40 => some (Sum.inr o40) else some (Sum.inl ()))).bind (onE (fun (s43 : Unit) => (field_Home_l1 K a0 o13 n) (w64 (s16 + 1))) (fun (s46 : Int) => some (Sum.inr (Sum.inr s46)))) else (field_Home_l1 K a0 o13 n) (w64 (s16 + 1))) else some (Sum.inl ()))
def field_Home_m (K : Nat) (a0 : plane_Plane) : Option (Int) := (field_All_m a0).bind fun o3 => ((plane_Plane_Len_m a0).bind fun o13 => (field_Home_l1 K a0 o13 K 0).bind (onS fun (s49 : Unit) => some (Sum.inl ()))).bind (onE (fun (s51 : Unit) => some 0) (fun (s54 : Int) => some s54))
theorem field_Home_c (K : Nat) (a0 : plane_Plane) (b0_0 : Nat) (v0_1 : Value) : Con Try.prog 58 #[.pointer (some ⟨b0_0, 0, none⟩)] [.blk b0_0 [.int .i64 a0.f_size.f_Rows, .int .i64 a0.f_size.f_Cols, v0_1, .int .i64 a0.f_cursor] 66, .own v0_1 44 k_api_Cell a0.f_cells] (field_Home_m K a0) (fun (o : Int) (x : Unit) => .int .i64 o) (fun (o : Int) (x : Unit) => [.blk b0_0 [.int .i64 a0.f_size.f_Rows, .int .i64 a0.f_size.f_Cols, v0_1, .int .i64 a0.f_cursor] 66, .own v0_1 44 k_api_Cell a0.f_cells]) := by
  unfold field_Home_m
  refine con (args := [.pointer (some ⟨b0_0, 0, none⟩)]) Try.func58 rfl 21 rfl (.c .n) rfl fun c hD hrn => ?_
  refine cSeq ?_
  refine cRegion ?_
  refine lCh (cBox (cs := [.pointer (some ⟨b0_0, 0, none⟩)]) (.t .z) rfl) rfl rfl fun b1 => ?_
  refine lCh (cAlloc (cs := [.int .i64 0]) zer_3 rfl) rfl rfl fun b2 => ?_
  refine lKeep (.k (.k .n)) ?_
  refine lNil ?_
  refine xCode ?_
  refine cSeq ?_
  refine cSeq ?_
  refine cRegion ?_
  refine lRd (dLoad (.s .z) agg_39 (.t (.s .z)) rfl) rfl rfl ?_
  refine lCall fok_47 (.c (.t .z) .n) (field_All_c a0 b0_0 v0_1) (.c (.s (.s .z)) (.c (.s (.s .z)) .n)) rfl rfl fun o3 x4 h5 => ?_
  refine lKeep (.k (.d (.k (.k .n)))) ?_
  refine lNil ?_
  refine xCode ?_
  refine cBlock ?_
  refine cRange (X := (Unit) × (Unit)) (jc := .ret) (L1 := (fun (s : Unit) (x : (Unit) × (Unit)) => [.blk b0_0 [.int .i64 a0.f_size.f_Rows, .int .i64 a0.f_size.f_Cols, v0_1, .int .i64 a0.f_cursor] 66, .own v0_1 44 k_api_Cell a0.f_cells, .blk x4 [.pointer (some ⟨b0_0, 0, none⟩)] 39, .blk b2 [.int .i64 0] 3, .blk b1 [.pointer (some ⟨b0_0, 0, none⟩)] 39])) (L2 := (fun (s : Int) (x : (Unit) × (Unit)) => [.blk b0_0 [.int .i64 a0.f_size.f_Rows, .int .i64 a0.f_size.f_Cols, v0_1, .int .i64 a0.f_cursor] 66, .own v0_1 44 k_api_Cell a0.f_cells, .blk x4 [.pointer (some ⟨b0_0, 0, none⟩)] 39, .blk b1 [.pointer (some ⟨b0_0, 0, none⟩)] 39, .blk b2 [.int .i64 s] 3])) (rv := fun _ _ => .tuple #[]) (cap := [.pointer (some ⟨x4, 0, none⟩)]) hrn (.t .z) fok_70 (fun fn9 T7 D8 b6 as12 bd12 h11 h12 h10 => ?_) (fun s51 x52 D53 => ?_) (fun s54 x55 D56 => ?_)
  · refine con (args := [.func (.yield b6) #[] #[], .pointer (some ⟨x4, 0, none⟩)]) Try.func70 rfl 22 rfl (.c (.c .n)) rfl fun c hD hrn => ?_
    refine cSeq ?_
    refine cRegion ?_
    refine lRd (dLoad (.s (.s (.s .z))) agg_39 (.t (.s .z)) rfl) rfl rfl ?_
    refine lCall fok_12 (.c (.t .z) .n) (plane_Plane_Len_c a0 b0_0 v0_1) (.c (.s .z) (.c (.s .z) .n)) rfl rfl fun o13 x14 h15 => ?_
    refine lRd (dMove (.c rfl)) rfl rfl ?_
    refine lKeep (.k (.k (.d (.k (.k .n))))) ?_
    refine lNil ?_
    refine xCode ?_
    refine cLoopR (S := Int) (X := Unit) (S' := Unit) (X' := Unit) (field_Home_l1 K a0 o13) (fun (s : Int) (x : Unit) => [(6, .int .i64 s), (5, .int .i64 o13), (0, .func (.yield b6) #[] #[]), (1, .pointer (some ⟨x4, 0, none⟩))]) (fun (s : Int) (x : Unit) => [.obj b6 (rc fn9 T7 [6] as12 bd12 D8 .ready none), .blk b0_0 [.int .i64 a0.f_size.f_Rows, .int .i64 a0.f_size.f_Cols, v0_1, .int .i64 a0.f_cursor] 66, .own v0_1 44 k_api_Cell a0.f_cells, .blk x4 [.pointer (some ⟨b0_0, 0, none⟩)] 39, .blk b2 [.int .i64 0] 3, .blk b1 [.pointer (some ⟨b0_0, 0, none⟩)] 39]) (fun (s : Unit) (x : Unit) => []) (fun (s : Unit) (x : Unit) => [.obj b6 (rc fn9 T7 [6] as12 bd12 D8 .ready none), .blk b0_0 [.int .i64 a0.f_size.f_Rows, .int .i64 a0.f_size.f_Cols, v0_1, .int .i64 a0.f_cursor] 66, .own v0_1 44 k_api_Cell a0.f_cells, .blk x4 [.pointer (some ⟨b0_0, 0, none⟩)] 39, .blk b2 [.int .i64 0] 3, .blk b1 [.pointer (some ⟨b0_0, 0, none⟩)] 39]) K 0 () (.c .z (.c (.s .z) (.c (.s (.s .z)) (.c (.s (.s (.s .z))) .n)))) (.c (.s (.s .z)) (.c .z (.c .z (.c .z (.c .z (.c .z .nil)))))) (fun _ => rfl) (fun n18 I19 h20 s16 x17 => ?_) (fun s49 x50 => ?_)
    · rw [field_Home_l1]
      refine cSeq ?_
      refine cRegion ?_
      refine lRd (dLt (.t .z) (.t (.s .z))) rfl rfl ?_
      refine lNil ?_
      refine xCode ?_
      refine cSeq ?_
      refine cCond (.t .z) (fun h21 => ?_) (fun h21 => ?_)
      · refine cSkip ?_
        refine xCode ?_
        refine cSeq ?_
        refine cBlock ?_
        refine cSeq ?_
        refine cRegion ?_
        refine lRd (dMove (.t (.s .z))) rfl rfl ?_
        refine lRd (dAssign (.t .z)) rfl rfl ?_
        refine lNil ?_
        refine xCode ?_
        refine cSeq ?_
        refine cRegion ?_
        refine lRd (dLoad (.s (.s (.s .z))) agg_39 (.t (.s (.s (.s (.s (.s (.s .z))))))) rfl) rfl rfl ?_
        refine lRd (dMove (.t (.s .z))) rfl rfl ?_
        refine lCall fok_13 (.c (.t (.s .z)) (.c (.t .z) .n)) (plane_Plane_At_c a0 s16 b0_0 v0_1) (.c (.s .z) (.c (.s .z) .n)) rfl rfl fun o22 x23 h24 => ?_
        refine lRd (dField (u := .bool o22.f_Start) fld_44_2 (.t .z) rfl) rfl rfl ?_
        refine lRd (dMove (.t .z)) rfl rfl ?_
        refine lCase (fun h25 => ?_) (fun h25 => ?_)
        · refine lRdG rfl .z h25 (dMove (.t (.s (.s (.s (.s (.s (.s (.s (.s (.s (.s .z)))))))))))) rfl rfl ?_
          refine lRdG rfl (.s .z) h25 (dLoad (.s (.s (.s .z))) agg_39 (.t (.s (.s (.s (.s (.s (.s (.s (.s (.s (.s (.s (.s .z))))))))))))) rfl) rfl rfl ?_
          refine lRdG rfl (.s (.s .z)) h25 (dMove (.t (.s (.s (.s (.s (.s (.s (.s .z))))))))) rfl rfl ?_
          refine lCallG rfl (.s (.s (.s .z))) h25 fok_71 (.c (.t (.s .z)) (.c (.t .z) .n)) (field_at_c K a0 s16 b0_0 v0_1) (.c .z (.c .z .n)) rfl rfl fun o26 x27 h28 => ?_
          refine lYieldG (X := (Unit) × (Unit)) (jc := .ret) (L1 := (fun (s : Unit) (x : (Unit) × (Unit)) => [.blk b0_0 [.int .i64 a0.f_size.f_Rows, .int .i64 a0.f_size.f_Cols, v0_1, .int .i64 a0.f_cursor] 66, .own v0_1 44 k_api_Cell a0.f_cells, .blk x4 [.pointer (some ⟨b0_0, 0, none⟩)] 39, .blk b2 [.int .i64 0] 3, .blk b1 [.pointer (some ⟨b0_0, 0, none⟩)] 39])) (L2 := (fun (s : Int) (x : (Unit) × (Unit)) => [.blk b0_0 [.int .i64 a0.f_size.f_Rows, .int .i64 a0.f_size.f_Cols, v0_1, .int .i64 a0.f_cursor] 66, .own v0_1 44 k_api_Cell a0.f_cells, .blk x4 [.pointer (some ⟨b0_0, 0, none⟩)] 39, .blk b1 [.pointer (some ⟨b0_0, 0, none⟩)] 39, .blk b2 [.int .i64 s] 3])) rfl (.s (.s (.s (.s .z)))) h25 (.t (.s (.s (.s .z)))) (.c (.t .z) .n) rfl (env1 h10 rfl rfl) (.s (.s .z)) rfl rfl (fun c hD hrn => ?_) (fun s43 x44 h45 => ?_) (fun s46 x47 h48 => ?_)
          · refine cEqC h11 ?_
            refine cRegion ?_
            refine lCh (cAlloc (cs := [.int .i64 0, .int .i64 0, vB 0]) zer_109 rfl) rfl rfl fun b29 => ?_
            refine lChU (uStoreA (us := [.int .i64 o26.f_Start, .int .i64 o26.f_Len, vB o26.f_Attr]) (cs' := [.int .i64 o26.f_Start, .int .i64 o26.f_Len, vB o26.f_Attr]) .z siz_109 rfl (by intro u hu; simp only [List.mem_cons, List.not_mem_nil, or_false] at hu; rcases hu with rfl | rfl | rfl <;> first | rfl | assumption) rfl (by simp) (.t .z) (.t (.s .z))) ?_
            refine lKeep (.k (.d (.d (.k (.k .n))))) ?_
            refine lNil ?_
            refine xBegin hrn (Upd.s (Upd.s (Upd.s Upd.z))) ?_
            refine cEqC h12 ?_
            refine cBlock ?_
            refine cSeq ?_
            refine cJoin (S := Bool) (X := Unit) (fun (s : Bool) (x : Unit) => [(15, .bool s), (3, .pointer (some ⟨b29, 0, none⟩)), (2, .pointer (some ⟨b2, 0, none⟩)), (1, .pointer (some ⟨b1, 0, none⟩))]) (fun (s : Bool) (x : Unit) => [.obj b6 (rc fn9 T7 [6] as12 bd12 D8 .busy none), .blk b29 [.int .i64 o26.f_Start, .int .i64 o26.f_Len, vB o26.f_Attr] 109, .blk b0_0 [.int .i64 a0.f_size.f_Rows, .int .i64 a0.f_size.f_Cols, v0_1, .int .i64 a0.f_cursor] 66, .own v0_1 44 k_api_Cell a0.f_cells, .blk x4 [.pointer (some ⟨b0_0, 0, none⟩)] 39, .blk b2 [.int .i64 0] 3, .blk b1 [.pointer (some ⟨b0_0, 0, none⟩)] 39]) ?_ (fun s34 x35 => ?_)
            · refine cRegion ?_
              refine lRd (dFld fld_109_1 (by decide) (.t .z) rfl) rfl rfl ?_
              refine lRd (dLoad .z agg_3 (.t .z) rfl) rfl rfl ?_
              refine lRd (dGt (.t .z) (.c rfl)) rfl rfl ?_
              refine lRd (dMove (.t .z)) rfl rfl ?_
              refine lCase (fun h30 => ?_) (fun h30 => ?_)
              · refine lRdG rfl .z (decide_eq_true h30) (dFld fld_109_2 (by decide) (.t (.s (.s (.s (.s .z))))) rfl) rfl rfl ?_
                refine lRdG rfl (.s .z) (decide_eq_true h30) (dLoad .z agg_5 (.t .z) rfl) rfl rfl ?_
                refine lCallG rfl (.s (.s .z)) (decide_eq_true h30) fok_55 (.c (.t .z) .n) (attr_Protected_c o26.f_Attr) .n rfl rfl fun o31 x32 h33 => ?_
                refine lRdG rfl (.s (.s (.s .z))) (decide_eq_true h30) (dNot (.t .z)) rfl rfl ?_
                refine lRd (dPickT (.t (.s (.s (.s (.s .z))))) (decide_eq_true h30) (.t .z)) rfl rfl ?_
                refine lKeep (.k (.d (.d (.d (.d (.d (.d (.d (.d (.k (.k (.k .n)))))))))))) ?_
                refine lNil ?_
                exact xJoin (!o31) () (.c .z (.c (.s .z) (.c (.s (.s .z)) (.c (.s (.s (.s .z))) .n)))) (.c (.s (.s (.s .z))) (.c .z (.c .z (.c .z (.c .z (.c .z (.c .z .nil)))))))
              · refine lPass rfl .z (nbT (decide_eq_false h30)) rfl ?_
                refine lPass rfl .z (nbT (decide_eq_false h30)) rfl ?_
                refine lPass rfl .z (nbT (decide_eq_false h30)) rfl ?_
                refine lPass rfl .z (nbT (decide_eq_false h30)) rfl ?_
                refine lRd (dPickF (.t .z) (decide_eq_false h30) (.c rfl)) rfl rfl ?_
                refine lKeep (.k (.d (.d (.d (.d (.k (.k (.k .n)))))))) ?_
                refine lNil ?_
                exact xJoin false () (.c .z (.c (.s .z) (.c (.s (.s .z)) (.c (.s (.s (.s .z))) .n)))) (.c (.s (.s (.s .z))) (.c .z (.c .z (.c .z (.c .z (.c .z (.c .z .nil)))))))
            · refine xCode ?_
              refine cCondB (.t .z) (fun h36 => ?_) (fun h36 => ?_)
              · refine cSeq ?_
                refine cRegionM [5] [(0, .early), (1, .early), (2, .early), (3, .early), (4, .early), (5, .only)] mixed (by kernel_rfl) (.c .z (.c .z (.c .z (.c .z (.c .z (.c (.s .z) (.c .z .nil))))))) (.c (.c (.c (.c (.c (.c .n)))))) ?_
                refine mRd rfl rfl (fun _ _ _ => dLoad (.s (.s (.s (.s (.s .z))))) agg_39 (.t (.s (.s (.s .z)))) rfl) rfl rfl ?_
                refine mCallQ rfl rfl fok_10 (.c (.t .z) .n) (plane_Plane_Size_c a0 b0_0 v0_1) (.c (.s (.s .z)) (.c (.s (.s .z)) .n)) (fun _ _ => rfl) (fun _ _ => (.c (.s (.s .z)) (.c (.s (.s .z)) (.c .z (.c .z (.c .z (.c .z (.c .z .nil)))))))) rfl rfl fun o37 h39 => ?_
                refine mRd rfl rfl (fun _ _ _ => dFld fld_109_0 (by decide) (.t (.s (.s (.s .z)))) rfl) rfl rfl ?_
                refine mRd rfl rfl (fun _ _ _ => dLoad (.s .z) agg_3 (.t .z) rfl) rfl rfl ?_
                refine mCallQ rfl rfl fok_74 (.c (.t (.s (.s .z))) (.c (.t .z) (.c (.c rfl) .n))) (addr_Move_c o37 o26.f_Start 1) .n (fun _ _ => rfl) (fun _ _ => (.c .z (.c .z (.c .z (.c .z (.c .z (.c .z (.c .z .nil)))))))) rfl rfl fun o40 h42 => ?_
                refine mChU rfl rfl (uStore (.s (.s (.s (.s (.s (.s .z)))))) siz_3 rfl .z (.t (.s (.s (.s (.s (.s (.s (.s .z)))))))) (.t .z)) (.c .z (.c .z (.c .z (.c .z (.c .z (.c .z (.c .z .nil))))))) (.c (.c (.c (.c (.c (.c .n)))))) ?_
                refine mKeep .n ?_
                refine mNil ?_
                refine xCode ?_
                refine cRet ?_
                exact rRound2 o40 ((), ()) Upd.z (.c .z (.c (.s .z) (.c (.s .z) (.c (.s .z) (.c (.s .z) (.c (.s .z) .nil)))))) rfl
              · refine cSkip ?_
                refine xBlock ?_
                exact xRound1 () ((), ()) Upd.z (.c .z (.c (.s .z) (.c (.s .z) (.c (.s .z) (.c (.s .z) (.c (.s .z) .nil))))))
          · refine lRdG rfl (.s (.s (.s (.s (.s .z))))) h25 (dNot (.t .z)) rfl rfl ?_
            refine lRd (dPickT (.t (.s (.s (.s (.s (.s (.s .z))))))) h25 (.t .z)) rfl rfl ?_
            refine lNil ?_
            refine xCode ?_
            refine cCondF (.t .z) rfl ?_
            refine cSkip ?_
            refine xBlock ?_
            refine xCode ?_
            refine cRegion ?_
            refine lRd (dAddI (.t (.s (.s (.s (.s (.s (.s (.s (.s (.s (.s (.s (.s (.s (.s (.s .z)))))))))))))))) (.c rfl)) rfl rfl ?_
            refine lRdK (dMove (.t .z)) (.k (.k (.k (.k (.k (.k (.k (.k (.k (.k (.k (.k (.k (.k (.k (.k (.d (Keep.refl _)))))))))))))))))) rfl rfl ?_
            refine lNil ?_
            exact xRound h20 (w64 (s16 + 1)) () (.c .z (.c (.s (.s (.s (.s (.s (.s (.s (.s (.s (.s (.s (.s (.s (.s (.s (.s (.s .z))))))))))))))))) (.c (.s (.s (.s (.s (.s (.s (.s (.s (.s (.s (.s (.s (.s (.s (.s (.s (.s (.s .z)))))))))))))))))) (.c (.s (.s (.s (.s (.s (.s (.s (.s (.s (.s (.s (.s (.s (.s (.s (.s (.s (.s (.s .z))))))))))))))))))) .n)))) (.c .z (.c .z (.c .z (.c .z (.c .z (.c .z .nil))))))
          · refine lRdG rfl (.s (.s (.s (.s (.s .z))))) h25 (dNot (.t .z)) rfl rfl ?_
            refine lRd (dPickT (.t (.s (.s (.s (.s (.s (.s .z))))))) h25 (.t .z)) rfl rfl ?_
            refine lNil ?_
            refine xCode ?_
            refine cCondT (.t .z) rfl ?_
            refine cRet ?_
            refine rInner ?_
            exact rDone (rs := []) rfl .n hD ((), ()) rfl (.c .z (.c .z (.c .z (.c .z (.c .z (.c .z .nil))))))
        · refine lPass rfl .z (nbT (Bool.eq_false_iff.mpr h25)) rfl ?_
          refine lPass rfl .z (nbT (Bool.eq_false_iff.mpr h25)) rfl ?_
          refine lPass rfl .z (nbT (Bool.eq_false_iff.mpr h25)) rfl ?_
          refine lPass rfl .z (nbT (Bool.eq_false_iff.mpr h25)) rfl ?_
          refine lPass rfl .z (nbT (Bool.eq_false_iff.mpr h25)) rfl ?_
          refine lPass rfl .z (nbT (Bool.eq_false_iff.mpr h25)) rfl ?_
          refine lRd (dPickF (.t .z) (Bool.eq_false_iff.mpr h25) (.c rfl)) rfl rfl ?_
          refine lNil ?_
          refine xCode ?_
          refine cCondF (.t .z) rfl ?_
          refine cSkip ?_
          refine xBlock ?_
          refine xCode ?_
          refine cRegion ?_
          refine lRd (dAddI (.t (.s (.s (.s (.s (.s (.s (.s (.s (.s .z)))))))))) (.c rfl)) rfl rfl ?_
          refine lRdK (dMove (.t .z)) (.k (.k (.k (.k (.k (.k (.k (.k (.k (.k (.d (Keep.refl _)))))))))))) rfl rfl ?_
          refine lNil ?_
          exact xRound h20 (w64 (s16 + 1)) () (.c .z (.c (.s (.s (.s (.s (.s (.s (.s (.s (.s (.s (.s .z))))))))))) (.c (.s (.s (.s (.s (.s (.s (.s (.s (.s (.s (.s (.s .z)))))))))))) (.c (.s (.s (.s (.s (.s (.s (.s (.s (.s (.s (.s (.s (.s .z))))))))))))) .n)))) (.c (.s (.s .z)) (.c .z (.c .z (.c .z (.c .z (.c .z .nil))))))
      · refine cExit ?_
        refine xOver ?_
        refine xOverF ?_
        exact xBreakR () () .n (.c .z (.c .z (.c .z (.c .z (.c .z (.c .z .nil))))))
    · exact xDone (rs := []) rfl .n hD ((), ()) rfl (.c .z (.c .z (.c .z (.c .z (.c .z (.c .z .nil))))))
  · refine xBlock ?_
    refine xCode ?_
    refine cSeq ?_
    refine cRegion ?_
    refine lChU (uStore (.s (.s (.s (.s .z)))) siz_3 rfl .z (.t (.s .z)) (.c rfl)) ?_
    refine lKeep (.d (.k .n)) ?_
    refine lNil ?_
    refine xCode ?_
    refine cRet ?_
    refine rLeave (congrArg (List.cons _) hD) ?_
    refine lvMark Upd.z (by simp) ?_
    exact lvRet (rs := [.cell 2 3]) rfl (.s .z (.s (.s (.s (.s .z)))) agg_3 .n) () rfl (.c (.s .z) (.c (.s .z) .nil))
  · refine cRet ?_
    refine rLeave (congrArg (List.cons _) hD) ?_
    refine lvMark Upd.z (by simp) ?_
    exact lvRet (rs := [.cell 2 3]) rfl (.s (.s .z) (.s (.s (.s (.s (.s .z))))) agg_3 .n) () rfl (.c (.s .z) (.c (.s .z) .nil))

-- greenscreen/wipe.Open
def wipe_Open_l1 (K : Nat) (o2 : (Int)) : Nat → (Int × Int × Int × Int × (List api_Cell) × Int) → Option (Int × Int × Int × (List api_Cell) × Int)
  | 0, _ => none
  | n + 1, s5 => (if s5.1 < o2 then (field_Open_m K (⟨(⟨s5.2.2.1, s5.2.2.2.1⟩ : api_Size), s5.2.2.2.2.1, s5.2.2.2.2.2⟩ : plane_Plane) s5.1).bind fun o11 => (if o11 = true then (plane_Plane_Set_m (⟨(⟨s5.2.2.1, s5.2.2.2.1⟩ : api_Size), s5.2.2.2.2.1, s5.2.2.2.2.2⟩ : plane_Plane) s5.1 (⟨0, false, false, 0, 0⟩ : api_Cell)).bind fun o15 => (wipe_Open_l1 K o2 n) (w64 (s5.1 + 1), w64 (s5.2.1 + 1), o15.1.f_size.f_Rows, o15.1.f_size.f_Cols, o15.1.f_cells, o15.1.f_cursor) else (wipe_Open_l1 K o2 n) (w64 (s5.1 + 1), s5.2.1, s5.2.2.1, s5.2.2.2.1, s5.2.2.2.2.1, s5.2.2.2.2.2)) else some (s5.2.1, s5.2.2.1, s5.2.2.2.1, s5.2.2.2.2.1, s5.2.2.2.2.2))
def wipe_Open_l2 (K : Nat) (o30 : (Int)) : Nat → (Int × Int × Int × (List api_Cell) × Int) → Option (Sum (Int × Int × (List api_Cell) × Int) (Sum (Int × Int × (List api_Cell) × Int) (Unit)))
  | 0, _ => none
  | n + 1, s33 => (if s33.1 < o30 then (plane_Plane_At_m (⟨(⟨s33.2.1, s33.2.2.1⟩ : api_Size), s33.2.2.2.1, s33.2.2.2.2⟩ : plane_Plane) s33.1).bind fun o39 => (if o39.f_Start = true then (field_at_m K (⟨(⟨s33.2.1, s33.2.2.1⟩ : api_Size), s33.2.2.2.1, s33.2.2.2.2⟩ : plane_Plane) s33.1).bind fun o43 => ((attr_Protected_m o43.f_Attr).bind fun o47 => (if o47 = true then some (Sum.inl (s33.2.1, s33.2.2.1, s33.2.2.2.1, s33.2.2.2.2)) else (plane_Plane_At_m (⟨(⟨s33.2.1, s33.2.2.1⟩ : api_Size), s33.2.2.2.1, s33.2.2.2.2⟩ : plane_Plane) o43.f_Start).bind fun o51 => (attr_Modify_m o51.f_Byte false).bind fun o55 => (plane_Plane_Set_m (⟨(⟨s33.2.1, s33.2.2.1⟩ : api_Size), s33.2.2.2.1, s33.2.2.2.2⟩ : plane_Plane) o43.f_Start (⟨o55, o51.f_GE, o51.f_Start, o51.f_Light, o51.f_Color⟩ : api_Cell)).bind fun o58 => some (Sum.inl (o58.1.f_size.f_Rows, o58.1.f_size.f_Cols, o58.1.f_cells, o58.1.f_cursor)))).bind (onE (fun (s61 : Int × Int × (List api_Cell) × Int) => (wipe_Open_l2 K o30 n) (w64 (s33.1 + 1), s61.1, s61.2.1, s61.2.2.1, s61.2.2.2)) (fun (_ : Unit) => none)) else (wipe_Open_l2 K o30 n) (w64 (s33.1 + 1), s33.2.1, s33.2.2.1, s33.2.2.2.1, s33.2.2.2.2)) else some (Sum.inl (s33.2.1, s33.2.2.1, s33.2.2.2.1, s33.2.2.2.2)))
def wipe_Open_m (K : Nat) (a0 : plane_Plane) : Option (plane_Plane × Int) := (plane_Plane_Len_m a0).bind fun o2 => (wipe_Open_l1 K o2 K (0, 0, a0.f_size.f_Rows, a0.f_size.f_Cols, a0.f_cells, a0.f_cursor)).bind fun (s18 : Int × Int × Int × (List api_Cell) × Int) => (field_All_m (⟨(⟨s18.2.1, s18.2.2.1⟩ : api_Size), s18.2.2.2.1, s18.2.2.2.2⟩ : plane_Plane)).bind fun o20 => ((plane_Plane_Len_m (⟨(⟨s18.2.1, s18.2.2.1⟩ : api_Size), s18.2.2.2.1, s18.2.2.2.2⟩ : plane_Plane)).bind fun o30 => (wipe_Open_l2 K o30 K (0, s18.2.1, s18.2.2.1, s18.2.2.2.1, s18.2.2.2.2)).bind (onS fun (s64 : Int × Int × (List api_Cell) × Int) => some (Sum.inl (s64.1, s64.2.1, s64.2.2.1, s64.2.2.2)))).bind (onE (fun (s66 : Int × Int × (List api_Cell) × Int) => (field_Home_m K (⟨(⟨s66.1, s66.2.1⟩ : api_Size), s66.2.2.1, s66.2.2.2⟩ : plane_Plane)).bind fun o69 => (plane_Plane_Point_m (⟨(⟨s66.1, s66.2.1⟩ : api_Size), s66.2.2.1, s66.2.2.2⟩ : plane_Plane) o69).bind fun o72 => some (o72.1, s18.1)) (fun (_ : Unit) => none))
theorem wipe_Open_c (K : Nat) (a0 : plane_Plane) (b0_0 : Nat) (v0_1 : Value) : Con Try.prog 37 #[.pointer (some ⟨b0_0, 0, none⟩)] [.blk b0_0 [.int .i64 a0.f_size.f_Rows, .int .i64 a0.f_size.f_Cols, v0_1, .int .i64 a0.f_cursor] 66, .own v0_1 44 k_api_Cell a0.f_cells] (wipe_Open_m K a0) (fun (o : plane_Plane × Int) (x : Unit) => .int .i64 o.2) (fun (o : plane_Plane × Int) (x : Unit) => [.blk b0_0 [.int .i64 o.1.f_size.f_Rows, .int .i64 o.1.f_size.f_Cols, v0_1, .int .i64 o.1.f_cursor] 66, .own v0_1 44 k_api_Cell o.1.f_cells]) := by
  unfold wipe_Open_m
  refine con (args := [.pointer (some ⟨b0_0, 0, none⟩)]) Try.func37 rfl 46 rfl (.c .n) rfl fun c hD hrn => ?_
  refine cSeq ?_
  refine cRegion ?_
  refine lCh (cBox (cs := [.pointer (some ⟨b0_0, 0, none⟩)]) (.t .z) rfl) rfl rfl fun b1 => ?_
  refine lRd (dAssign (.c rfl)) rfl rfl ?_
  refine lKeep (.k (.k .n)) ?_
  refine lNil ?_
  refine xCode ?_
  refine cSeq ?_
  refine cRegion ?_
  refine lRd (dAssign (.c rfl)) rfl rfl ?_
  refine lNil ?_
  refine xCode ?_
  refine cSeq ?_
  refine cSeq ?_
  refine cRegion ?_
  refine lRd (dLoad .z agg_39 (.t (.s (.s .z))) rfl) rfl rfl ?_
  refine lCall fok_12 (.c (.t .z) .n) (plane_Plane_Len_c a0 b0_0 v0_1) (.c (.s .z) (.c (.s .z) .n)) rfl rfl fun o2 x3 h4 => ?_
  refine lRd (dMove (.c rfl)) rfl rfl ?_
  refine lKeep (.k (.k (.d (.k (.k (.k .n)))))) ?_
  refine lNil ?_
  refine xCode ?_
  refine cLoopB (S := Int × Int × Int × Int × (List api_Cell) × Int) (X := Unit) (S' := Int × Int × Int × (List api_Cell) × Int) (X' := Unit) (wipe_Open_l1 K o2) (fun (s : Int × Int × Int × Int × (List api_Cell) × Int) (x : Unit) => [(9, .int .i64 s.1), (8, .int .i64 o2), (3, .int .i64 s.2.1), (2, .int .i64 0), (1, .pointer (some ⟨b1, 0, none⟩))]) (fun (s : Int × Int × Int × Int × (List api_Cell) × Int) (x : Unit) => [.blk b0_0 [.int .i64 s.2.2.1, .int .i64 s.2.2.2.1, v0_1, .int .i64 s.2.2.2.2.2] 66, .own v0_1 44 k_api_Cell s.2.2.2.2.1, .blk b1 [.pointer (some ⟨b0_0, 0, none⟩)] 39]) (fun (s : Int × Int × Int × (List api_Cell) × Int) (x : Unit) => [(3, .int .i64 s.1), (2, .int .i64 0), (1, .pointer (some ⟨b1, 0, none⟩))]) (fun (s : Int × Int × Int × (List api_Cell) × Int) (x : Unit) => [.blk b0_0 [.int .i64 s.2.1, .int .i64 s.2.2.1, v0_1, .int .i64 s.2.2.2.2] 66, .own v0_1 44 k_api_Cell s.2.2.2.1, .blk b1 [.pointer (some ⟨b0_0, 0, none⟩)] 39]) K (0, 0, a0.f_size.f_Rows, a0.f_size.f_Cols, a0.f_cells, a0.f_cursor) () (.c .z (.c (.s .z) (.c (.s (.s .z)) (.c (.s (.s (.s .z))) (.c (.s (.s (.s (.s .z)))) .n))))) (.c .z (.c .z (.c .z .nil))) (fun _ => rfl) (fun n7 I8 h9 s5 x6 => ?_) (fun s18 x19 => ?_)
  · rw [wipe_Open_l1]
    refine cSeq ?_
    refine cRegion ?_
    refine lRd (dLt (.t .z) (.t (.s .z))) rfl rfl ?_
    refine lNil ?_
    refine xCode ?_
    refine cSeq ?_
    refine cCond (.t .z) (fun h10 => ?_) (fun h10 => ?_)
    · refine cSkip ?_
      refine xCode ?_
      refine cSeq ?_
      refine cBlock ?_
      refine cSeq ?_
      refine cRegion ?_
      refine lRd (dMove (.t (.s .z))) rfl rfl ?_
      refine lRd (dAssign (.t .z)) rfl rfl ?_
      refine lNil ?_
      refine xCode ?_
      refine cSeq ?_
      refine cRegion ?_
      refine lRd (dLoad (.s (.s .z)) agg_39 (.t (.s (.s (.s (.s (.s (.s (.s .z)))))))) rfl) rfl rfl ?_
      refine lRd (dMove (.t (.s .z))) rfl rfl ?_
      refine lCall fok_53 (.c (.t (.s .z)) (.c (.t .z) .n)) (field_Open_c K (⟨(⟨s5.2.2.1, s5.2.2.2.1⟩ : api_Size), s5.2.2.2.2.1, s5.2.2.2.2.2⟩ : plane_Plane) s5.1 b0_0 v0_1) (.c .z (.c .z .n)) rfl rfl fun o11 x12 h13 => ?_
      refine lNil ?_
      refine xCode ?_
      refine cCondB (.t .z) (fun h14 => ?_) (fun h14 => ?_)
      · refine cSeq ?_
        refine cRegion ?_
        refine lRd (dLoad (.s (.s .z)) agg_39 (.t (.s (.s (.s (.s (.s (.s (.s (.s (.s (.s .z))))))))))) rfl) rfl rfl ?_
        refine lRd (dMove (.t (.s (.s (.s (.s .z)))))) rfl rfl ?_
        refine lRd (dBuild (cs := [vB 0, .bool false, .bool false, vB 0, vB 0]) zer_44 rfl plc_44 .n rfl) rfl rfl ?_
        refine lCallN fok_54 (.c (.t (.s (.s .z))) (.c (.t (.s .z)) (.c (.t .z) .n))) (plane_Plane_Set_c (⟨(⟨s5.2.2.1, s5.2.2.2.1⟩ : api_Size), s5.2.2.2.2.1, s5.2.2.2.2.2⟩ : plane_Plane) s5.1 (⟨0, false, false, 0, 0⟩ : api_Cell) b0_0 v0_1) (.c .z (.c .z .n)) rfl fun o15 x16 h17 => ?_
        refine lNil ?_
        refine xCode ?_
        refine cRegion ?_
        refine lRd (dMove (.t (.s (.s (.s (.s (.s (.s (.s (.s (.s (.s (.s .z))))))))))))) rfl rfl ?_
        refine lRd (dAddI (.t .z) (.c rfl)) rfl rfl ?_
        refine lRdK (dAssign (.t .z)) (.k (.k (.k (.k (.k (.k (.k (.k (.k (.k (.k (.k (.k (.d (Keep.refl _))))))))))))))) rfl rfl ?_
        refine lNil ?_
        refine xBlock ?_
        refine xCode ?_
        refine cRegion ?_
        refine lRd (dAddI (.t (.s (.s (.s (.s (.s (.s (.s (.s (.s (.s (.s (.s .z))))))))))))) (.c rfl)) rfl rfl ?_
        refine lRdK (dMove (.t .z)) (.k (.k (.k (.k (.k (.k (.k (.k (.k (.k (.k (.k (.k (.d (Keep.refl _))))))))))))))) rfl rfl ?_
        refine lNil ?_
        exact xRound h9 (w64 (s5.1 + 1), w64 (s5.2.1 + 1), o15.1.f_size.f_Rows, o15.1.f_size.f_Cols, o15.1.f_cells, o15.1.f_cursor) () (.c .z (.c (.s (.s (.s (.s (.s (.s (.s (.s (.s (.s (.s (.s (.s (.s .z)))))))))))))) (.c (.s (.s .z)) (.c (.s (.s (.s (.s (.s (.s (.s (.s (.s (.s (.s (.s (.s (.s (.s .z))))))))))))))) (.c (.s (.s (.s (.s (.s (.s (.s (.s (.s (.s (.s (.s (.s (.s (.s (.s .z)))))))))))))))) .n))))) (.c .z (.c .z (.c .z .nil)))
      · refine cSkip ?_
        refine xBlock ?_
        refine xCode ?_
        refine cRegion ?_
        refine lRd (dAddI (.t (.s (.s (.s (.s (.s (.s .z))))))) (.c rfl)) rfl rfl ?_
        refine lRdK (dMove (.t .z)) (.k (.k (.k (.k (.k (.k (.k (.d (Keep.refl _))))))))) rfl rfl ?_
        refine lNil ?_
        exact xRound h9 (w64 (s5.1 + 1), s5.2.1, s5.2.2.1, s5.2.2.2.1, s5.2.2.2.2.1, s5.2.2.2.2.2) () (.c .z (.c (.s (.s (.s (.s (.s (.s (.s (.s .z)))))))) (.c (.s (.s (.s (.s (.s (.s (.s (.s (.s .z))))))))) (.c (.s (.s (.s (.s (.s (.s (.s (.s (.s (.s .z)))))))))) (.c (.s (.s (.s (.s (.s (.s (.s (.s (.s (.s (.s .z))))))))))) .n))))) (.c .z (.c .z (.c .z .nil)))
    · refine cExit ?_
      refine xOver ?_
      refine xOverF ?_
      exact xJoin (s5.2.1, s5.2.2.1, s5.2.2.2.1, s5.2.2.2.2.1, s5.2.2.2.2.2) () (.c (.s (.s (.s .z))) (.c (.s (.s (.s (.s .z)))) (.c (.s (.s (.s (.s (.s .z))))) .n))) (.c .z (.c .z (.c .z .nil)))
  · refine xCode ?_
    refine cSeq ?_
    refine cSeq ?_
    refine cRegion ?_
    refine lRd (dLoad (.s (.s .z)) agg_39 (.t (.s (.s .z))) rfl) rfl rfl ?_
    refine lCall fok_47 (.c (.t .z) .n) (field_All_c (⟨(⟨s18.2.1, s18.2.2.1⟩ : api_Size), s18.2.2.2.1, s18.2.2.2.2⟩ : plane_Plane) b0_0 v0_1) (.c .z (.c .z .n)) rfl rfl fun o20 x21 h22 => ?_
    refine lKeep (.k (.d (.k (.k (.k .n))))) ?_
    refine lNil ?_
    refine xCode ?_
    refine cBlock ?_
    refine cRange (X := (Unit) × (Unit)) (jc := .ret) (L1 := (fun (s : Int × Int × (List api_Cell) × Int) (x : (Unit) × (Unit)) => [.blk b0_0 [.int .i64 s.1, .int .i64 s.2.1, v0_1, .int .i64 s.2.2.2] 66, .own v0_1 44 k_api_Cell s.2.2.1, .blk x21 [.pointer (some ⟨b0_0, 0, none⟩)] 39, .blk b1 [.pointer (some ⟨b0_0, 0, none⟩)] 39])) (L2 := (fun (s : Unit) (x : (Unit) × (Unit)) => [])) (rv := fun _ _ => .tuple #[]) (cap := [.pointer (some ⟨x21, 0, none⟩)]) hrn (.t .z) fok_70 (fun fn26 T24 D25 b23 as29 bd29 h28 h29 h27 => ?_) (fun s66 x67 D68 => ?_) (fun _ _ _ => cStuck)
    · refine con (args := [.func (.yield b23) #[] #[], .pointer (some ⟨x21, 0, none⟩)]) Try.func70 rfl 22 rfl (.c (.c .n)) rfl fun c hD hrn => ?_
      refine cSeq ?_
      refine cRegion ?_
      refine lRd (dLoad (.s (.s (.s .z))) agg_39 (.t (.s .z)) rfl) rfl rfl ?_
      refine lCall fok_12 (.c (.t .z) .n) (plane_Plane_Len_c (⟨(⟨s18.2.1, s18.2.2.1⟩ : api_Size), s18.2.2.2.1, s18.2.2.2.2⟩ : plane_Plane) b0_0 v0_1) (.c (.s .z) (.c (.s .z) .n)) rfl rfl fun o30 x31 h32 => ?_
      refine lRd (dMove (.c rfl)) rfl rfl ?_
      refine lKeep (.k (.k (.d (.k (.k .n))))) ?_
      refine lNil ?_
      refine xCode ?_
      refine cLoopR (S := Int × Int × Int × (List api_Cell) × Int) (X := Unit) (S' := Int × Int × (List api_Cell) × Int) (X' := Unit) (wipe_Open_l2 K o30) (fun (s : Int × Int × Int × (List api_Cell) × Int) (x : Unit) => [(6, .int .i64 s.1), (5, .int .i64 o30), (0, .func (.yield b23) #[] #[]), (1, .pointer (some ⟨x21, 0, none⟩))]) (fun (s : Int × Int × Int × (List api_Cell) × Int) (x : Unit) => [.obj b23 (rc fn26 T24 [24] as29 bd29 D25 .ready none), .blk b0_0 [.int .i64 s.2.1, .int .i64 s.2.2.1, v0_1, .int .i64 s.2.2.2.2] 66, .own v0_1 44 k_api_Cell s.2.2.2.1, .blk x21 [.pointer (some ⟨b0_0, 0, none⟩)] 39, .blk b1 [.pointer (some ⟨b0_0, 0, none⟩)] 39]) (fun (s : Int × Int × (List api_Cell) × Int) (x : Unit) => []) (fun (s : Int × Int × (List api_Cell) × Int) (x : Unit) => [.obj b23 (rc fn26 T24 [24] as29 bd29 D25 .ready none), .blk b0_0 [.int .i64 s.1, .int .i64 s.2.1, v0_1, .int .i64 s.2.2.2] 66, .own v0_1 44 k_api_Cell s.2.2.1, .blk x21 [.pointer (some ⟨b0_0, 0, none⟩)] 39, .blk b1 [.pointer (some ⟨b0_0, 0, none⟩)] 39]) K (0, s18.2.1, s18.2.2.1, s18.2.2.2.1, s18.2.2.2.2) () (.c .z (.c (.s .z) (.c (.s (.s .z)) (.c (.s (.s (.s .z))) .n)))) (.c (.s (.s .z)) (.c .z (.c .z (.c .z (.c .z .nil))))) (fun _ => rfl) (fun n35 I36 h37 s33 x34 => ?_) (fun s64 x65 => ?_)
      · rw [wipe_Open_l2]
        refine cSeq ?_
        refine cRegion ?_
        refine lRd (dLt (.t .z) (.t (.s .z))) rfl rfl ?_
        refine lNil ?_
        refine xCode ?_
        refine cSeq ?_
        refine cCond (.t .z) (fun h38 => ?_) (fun h38 => ?_)
        · refine cSkip ?_
          refine xCode ?_
          refine cSeq ?_
          refine cBlock ?_
          refine cSeq ?_
          refine cRegion ?_
          refine lRd (dMove (.t (.s .z))) rfl rfl ?_
          refine lRd (dAssign (.t .z)) rfl rfl ?_
          refine lNil ?_
          refine xCode ?_
          refine cSeq ?_
          refine cRegion ?_
          refine lRd (dLoad (.s (.s (.s .z))) agg_39 (.t (.s (.s (.s (.s (.s (.s .z))))))) rfl) rfl rfl ?_
          refine lRd (dMove (.t (.s .z))) rfl rfl ?_
          refine lCall fok_13 (.c (.t (.s .z)) (.c (.t .z) .n)) (plane_Plane_At_c (⟨(⟨s33.2.1, s33.2.2.1⟩ : api_Size), s33.2.2.2.1, s33.2.2.2.2⟩ : plane_Plane) s33.1 b0_0 v0_1) (.c (.s .z) (.c (.s .z) .n)) rfl rfl fun o39 x40 h41 => ?_
          refine lRd (dField (u := .bool o39.f_Start) fld_44_2 (.t .z) rfl) rfl rfl ?_
          refine lRd (dMove (.t .z)) rfl rfl ?_
          refine lCase (fun h42 => ?_) (fun h42 => ?_)
          · refine lRdG rfl .z h42 (dMove (.t (.s (.s (.s (.s (.s (.s (.s (.s (.s (.s .z)))))))))))) rfl rfl ?_
            refine lRdG rfl (.s .z) h42 (dLoad (.s (.s (.s .z))) agg_39 (.t (.s (.s (.s (.s (.s (.s (.s (.s (.s (.s (.s (.s .z))))))))))))) rfl) rfl rfl ?_
            refine lRdG rfl (.s (.s .z)) h42 (dMove (.t (.s (.s (.s (.s (.s (.s (.s .z))))))))) rfl rfl ?_
            refine lCallG rfl (.s (.s (.s .z))) h42 fok_71 (.c (.t (.s .z)) (.c (.t .z) .n)) (field_at_c K (⟨(⟨s33.2.1, s33.2.2.1⟩ : api_Size), s33.2.2.2.1, s33.2.2.2.2⟩ : plane_Plane) s33.1 b0_0 v0_1) (.c .z (.c .z .n)) rfl rfl fun o43 x44 h45 => ?_
            refine lYieldG (X := (Unit) × (Unit)) (jc := .ret) (L1 := (fun (s : Int × Int × (List api_Cell) × Int) (x : (Unit) × (Unit)) => [.blk b0_0 [.int .i64 s.1, .int .i64 s.2.1, v0_1, .int .i64 s.2.2.2] 66, .own v0_1 44 k_api_Cell s.2.2.1, .blk x21 [.pointer (some ⟨b0_0, 0, none⟩)] 39, .blk b1 [.pointer (some ⟨b0_0, 0, none⟩)] 39])) (L2 := (fun (s : Unit) (x : (Unit) × (Unit)) => [])) rfl (.s (.s (.s (.s .z)))) h42 (.t (.s (.s (.s .z)))) (.c (.t .z) .n) rfl (env1 h27 rfl rfl) (.s (.s .z)) rfl rfl (fun c hD hrn => ?_) (fun s61 x62 h63 => ?_) (fun _ _ _ => lStuck)
            · refine cEqC h28 ?_
              refine cRegion ?_
              refine lCh (cAlloc (cs := [.int .i64 0, .int .i64 0, vB 0]) zer_109 rfl) rfl rfl fun b46 => ?_
              refine lChU (uStoreA (us := [.int .i64 o43.f_Start, .int .i64 o43.f_Len, vB o43.f_Attr]) (cs' := [.int .i64 o43.f_Start, .int .i64 o43.f_Len, vB o43.f_Attr]) .z siz_109 rfl (by intro u hu; simp only [List.mem_cons, List.not_mem_nil, or_false] at hu; rcases hu with rfl | rfl | rfl <;> first | rfl | assumption) rfl (by simp) (.t .z) (.t (.s .z))) ?_
              refine lKeep (.k (.d (.d (.d (.d (.k .n)))))) ?_
              refine lNil ?_
              refine xBegin hrn (Upd.s (Upd.s (Upd.s Upd.z))) ?_
              refine cEqC h29 ?_
              refine cBlock ?_
              refine cSeq ?_
              refine cSeq ?_
              refine cRegion ?_
              refine lRd (dFld fld_109_2 (by decide) (.t .z) rfl) rfl rfl ?_
              refine lRd (dLoad .z agg_5 (.t .z) rfl) rfl rfl ?_
              refine lCall fok_55 (.c (.t .z) .n) (attr_Protected_c o43.f_Attr) .n rfl rfl fun o47 x48 h49 => ?_
              refine lKeep (.k (.d (.d (.k (.k .n))))) ?_
              refine lNil ?_
              refine xCode ?_
              refine cCondB (.t .z) (fun h50 => ?_) (fun h50 => ?_)
              · refine cExit ?_
                refine xOver ?_
                refine xHit ?_
                exact xRound1 (s33.2.1, s33.2.2.1, s33.2.2.2.1, s33.2.2.2.2) ((), ()) (Upd.s (Upd.s (Upd.s Upd.z))) (.c (.s (.s (.s .z))) (.c (.s .z) (.c (.s .z) (.c (.s .z) (.c (.s .z) .nil)))))
              · refine cSkip ?_
                refine xCode ?_
                refine cSeq ?_
                refine cRegion ?_
                refine lRd (dLoad (.s (.s (.s (.s (.s .z))))) agg_39 (.t (.s (.s .z))) rfl) rfl rfl ?_
                refine lRd (dFld fld_109_0 (by decide) (.t (.s (.s .z))) rfl) rfl rfl ?_
                refine lRd (dLoad .z agg_3 (.t .z) rfl) rfl rfl ?_
                refine lCall fok_13 (.c (.t (.s (.s .z))) (.c (.t .z) .n)) (plane_Plane_At_c (⟨(⟨s33.2.1, s33.2.2.1⟩ : api_Size), s33.2.2.2.1, s33.2.2.2.2⟩ : plane_Plane) o43.f_Start b0_0 v0_1) (.c (.s .z) (.c (.s .z) .n)) rfl rfl fun o51 x52 h53 => ?_
                refine lCh (cAlloc (cs := [vB 0, .bool false, .bool false, vB 0, vB 0]) zer_44 rfl) rfl rfl fun b54 => ?_
                refine lChU (uStoreA (us := [vB o51.f_Byte, .bool o51.f_GE, .bool o51.f_Start, vB o51.f_Light, vB o51.f_Color]) (cs' := [vB o51.f_Byte, .bool o51.f_GE, .bool o51.f_Start, vB o51.f_Light, vB o51.f_Color]) .z siz_44 rfl (by intro u hu; simp only [List.mem_cons, List.not_mem_nil, or_false] at hu; rcases hu with rfl | rfl | rfl | rfl | rfl <;> first | rfl | assumption) rfl (by simp) (.t .z) (.t (.s .z))) ?_
                refine lKeep (.k (.d (.d (.d (.d (.d (.k (.k .n)))))))) ?_
                refine lNil ?_
                refine xCode ?_
                refine cSeq ?_
                refine cRegion ?_
                refine lRd (dFld fld_44_0 (by decide) (.t .z) rfl) rfl rfl ?_
                refine lRd (dLoad .z agg_5 (.t .z) rfl) rfl rfl ?_
                refine lCall fok_56 (.c (.t .z) (.c (.c rfl) .n)) (attr_Modify_c o51.f_Byte false) .n rfl rfl fun o55 x56 h57 => ?_
                refine lRd (dFld fld_44_0 (by decide) (.t (.s (.s (.s .z)))) rfl) rfl rfl ?_
                refine lChU (uStore .z siz_5 rfl .z (.t .z) (.t (.s .z))) ?_
                refine lKeep (.d (.d (.d (.d (.k (.k (.k .n))))))) ?_
                refine lNil ?_
                refine xCode ?_
                refine cRegion ?_
                refine lRd (dLoad (.s (.s (.s (.s (.s (.s .z)))))) agg_39 (.t (.s (.s .z))) rfl) rfl rfl ?_
                refine lRd (dFld fld_109_0 (by decide) (.t (.s (.s .z))) rfl) rfl rfl ?_
                refine lRd (dLoad (.s (.s (.s .z))) agg_3 (.t .z) rfl) rfl rfl ?_
                refine lRd (dLoadA (us := [vB o55, .bool o51.f_GE, .bool o51.f_Start, vB o51.f_Light, vB o51.f_Color]) .z agg_44 siz_44 rfl (.t (.s (.s (.s .z)))) rfl) rfl rfl ?_
                refine lCallN fok_54 (.c (.t (.s (.s (.s .z)))) (.c (.t (.s .z)) (.c (.t .z) .n))) (plane_Plane_Set_c (⟨(⟨s33.2.1, s33.2.2.1⟩ : api_Size), s33.2.2.2.1, s33.2.2.2.2⟩ : plane_Plane) o43.f_Start (⟨o55, o51.f_GE, o51.f_Start, o51.f_Light, o51.f_Color⟩ : api_Cell) b0_0 v0_1) (.c (.s .z) (.c (.s .z) .n)) rfl fun o58 x59 h60 => ?_
                refine lKeep .n ?_
                refine lNil ?_
                refine xBlock ?_
                exact xRound1 (o58.1.f_size.f_Rows, o58.1.f_size.f_Cols, o58.1.f_cells, o58.1.f_cursor) ((), ()) (Upd.s (Upd.s (Upd.s (Upd.s Upd.z)))) (.c (.s (.s (.s (.s .z)))) (.c .z (.c .z (.c (.s (.s .z)) (.c (.s (.s .z)) .nil)))))
            · refine lRdG rfl (.s (.s (.s (.s (.s .z))))) h42 (dNot (.t .z)) rfl rfl ?_
              refine lRd (dPickT (.t (.s (.s (.s (.s (.s (.s .z))))))) h42 (.t .z)) rfl rfl ?_
              refine lNil ?_
              refine xCode ?_
              refine cCondF (.t .z) rfl ?_
              refine cSkip ?_
              refine xBlock ?_
              refine xCode ?_
              refine cRegion ?_
              refine lRd (dAddI (.t (.s (.s (.s (.s (.s (.s (.s (.s (.s (.s (.s (.s (.s (.s (.s .z)))))))))))))))) (.c rfl)) rfl rfl ?_
              refine lRdK (dMove (.t .z)) (.k (.k (.k (.k (.k (.k (.k (.k (.k (.k (.k (.k (.k (.k (.k (.k (.d (Keep.refl _)))))))))))))))))) rfl rfl ?_
              refine lNil ?_
              exact xRound h37 (w64 (s33.1 + 1), s61.1, s61.2.1, s61.2.2.1, s61.2.2.2) () (.c .z (.c (.s (.s (.s (.s (.s (.s (.s (.s (.s (.s (.s (.s (.s (.s (.s (.s (.s .z))))))))))))))))) (.c (.s (.s (.s (.s (.s (.s (.s (.s (.s (.s (.s (.s (.s (.s (.s (.s (.s (.s .z)))))))))))))))))) (.c (.s (.s (.s (.s (.s (.s (.s (.s (.s (.s (.s (.s (.s (.s (.s (.s (.s (.s (.s .z))))))))))))))))))) .n)))) (.c .z (.c .z (.c .z (.c .z (.c .z .nil)))))
          · refine lPass rfl .z (nbT (Bool.eq_false_iff.mpr h42)) rfl ?_
            refine lPass rfl .z (nbT (Bool.eq_false_iff.mpr h42)) rfl ?_
            refine lPass rfl .z (nbT (Bool.eq_false_iff.mpr h42)) rfl ?_
            refine lPass rfl .z (nbT (Bool.eq_false_iff.mpr h42)) rfl ?_
            refine lPass rfl .z (nbT (Bool.eq_false_iff.mpr h42)) rfl ?_
            refine lPass rfl .z (nbT (Bool.eq_false_iff.mpr h42)) rfl ?_
            refine lRd (dPickF (.t .z) (Bool.eq_false_iff.mpr h42) (.c rfl)) rfl rfl ?_
            refine lNil ?_
            refine xCode ?_
            refine cCondF (.t .z) rfl ?_
            refine cSkip ?_
            refine xBlock ?_
            refine xCode ?_
            refine cRegion ?_
            refine lRd (dAddI (.t (.s (.s (.s (.s (.s (.s (.s (.s (.s .z)))))))))) (.c rfl)) rfl rfl ?_
            refine lRdK (dMove (.t .z)) (.k (.k (.k (.k (.k (.k (.k (.k (.k (.k (.d (Keep.refl _)))))))))))) rfl rfl ?_
            refine lNil ?_
            exact xRound h37 (w64 (s33.1 + 1), s33.2.1, s33.2.2.1, s33.2.2.2.1, s33.2.2.2.2) () (.c .z (.c (.s (.s (.s (.s (.s (.s (.s (.s (.s (.s (.s .z))))))))))) (.c (.s (.s (.s (.s (.s (.s (.s (.s (.s (.s (.s (.s .z)))))))))))) (.c (.s (.s (.s (.s (.s (.s (.s (.s (.s (.s (.s (.s (.s .z))))))))))))) .n)))) (.c (.s (.s .z)) (.c .z (.c .z (.c .z (.c .z .nil)))))
        · refine cExit ?_
          refine xOver ?_
          refine xOverF ?_
          exact xBreakR (s33.2.1, s33.2.2.1, s33.2.2.2.1, s33.2.2.2.2) () .n (.c .z (.c .z (.c .z (.c .z (.c .z .nil)))))
      · exact xDone (rs := []) rfl .n hD ((), ()) rfl (.c .z (.c .z (.c .z (.c .z (.c .z .nil)))))
    · refine xBlock ?_
      refine xCode ?_
      refine cSeq ?_
      refine cRegionM [3] [(0, .early), (1, .early), (2, .early), (3, .only)] mixed (by kernel_rfl) (.c .z (.c (.s (.s .z)) (.c (.s (.s .z)) (.c .z (.c .z .nil))))) (.c (.c (.c .n))) ?_
      refine mRd rfl rfl (fun _ _ _ => dLoad (.s (.s .z)) agg_39 (.t (.s (.s (.s .z)))) rfl) rfl rfl ?_
      refine mRd rfl rfl (fun _ _ _ => dLoad (.s (.s .z)) agg_39 (.t (.s (.s (.s (.s .z))))) rfl) rfl rfl ?_
      refine mCallQ rfl rfl fok_58 (.c (.t .z) .n) (field_Home_c K (⟨(⟨s66.1, s66.2.1⟩ : api_Size), s66.2.2.1, s66.2.2.2⟩ : plane_Plane) b0_0 v0_1) (.c (.s (.s (.s .z))) (.c (.s (.s (.s .z))) .n)) (fun _ _ => rfl) (fun _ _ => (.c (.s (.s .z)) (.c (.s (.s .z)) (.c (.s (.s .z)) (.c .z (.c .z .nil)))))) rfl rfl fun o69 h71 => ?_
      refine mCallN rfl rfl fok_57 (.c (.t (.s (.s .z))) (.c (.t .z) .n)) (plane_Plane_Point_c (⟨(⟨s66.1, s66.2.1⟩ : api_Size), s66.2.2.1, s66.2.2.2⟩ : plane_Plane) o69 b0_0 v0_1) (.c (.s (.s (.s .z))) (.c (.s (.s (.s .z))) .n)) (fun o72 x73 => (.c (.s (.s .z)) (.c (.s (.s .z)) (.c (.s (.s .z)) (.c .z (.c .z .nil)))))) (fun _ _ => (.c (.c (.c .n)))) rfl fun o72 x73 h74  => ?_
      refine mKeep (.d (.d (.d (.d (.k (.k .n)))))) ?_
      refine mNil ?_
      refine xCode ?_
      refine cSeq ?_
      refine cRegion ?_
      refine lRd (dMove (.t .z)) rfl rfl ?_
      refine lRdK (dAssign (.t .z)) (.k (.k (.d (Keep.refl _)))) rfl rfl ?_
      refine lKeep (.k .n) ?_
      refine lNil ?_
      refine xCode ?_
      refine cRet ?_
      refine rLeave (congrArg (List.cons _) hD) ?_
      refine lvMark Upd.z (by simp) ?_
      exact lvRet (rs := [.tmp 2]) rfl (.t .z .n) () rfl (.c (.s (.s (.s .z))) (.c (.s (.s (.s .z))) .nil))

-- greenscreen/screen.size
def screen_size_m (a0 : UInt8) : Option (Int) := (if a0 = (0 : UInt8) then some 0 else some 1)
theorem screen_size_c (a0 : UInt8) : Con Try.prog 75 #[vB a0] [] (screen_size_m a0) (fun (o : Int) (x : Unit) => .int .i64 o) (fun (o : Int) (x : Unit) => []) := by
  unfold screen_size_m
  refine con (args := [vB a0]) Try.func75 rfl 5 rfl (.c .n) rfl fun c hD hrn => ?_
  refine cSeq ?_
  refine cRegion ?_
  refine lRd (dAssign (.c rfl)) rfl rfl ?_
  refine lNil ?_
  refine xCode ?_
  refine cSeq ?_
  refine cSeq ?_
  refine cRegion ?_
  refine lRd (dMove (.t (.s .z))) rfl rfl ?_
  refine lRd (dEqB (.t .z) (.c (v' := vB 0) rfl)) rfl rfl ?_
  refine lKeep (.k (.d (.k .n))) ?_
  refine lNil ?_
  refine xCode ?_
  refine cCond (.t .z) (fun h1 => ?_) (fun h1 => ?_)
  · refine cSeq ?_
    refine cRegion ?_
    refine lRdK (dAssign (.c rfl)) (.k (.d (Keep.refl _))) rfl rfl ?_
    refine lKeep (.k .n) ?_
    refine lNil ?_
    refine xCode ?_
    refine cRet ?_
    refine rLeave hD ?_
    exact lvRet (rs := [.tmp 2]) rfl (.t .z .n) () rfl .nil
  · refine cSkip ?_
    refine xCode ?_
    refine cSeq ?_
    refine cRegion ?_
    refine lRdK (dAssign (.c rfl)) (.k (.d (Keep.refl _))) rfl rfl ?_
    refine lKeep (.k .n) ?_
    refine lNil ?_
    refine xCode ?_
    refine cRet ?_
    refine rLeave hD ?_
    exact lvRet (rs := [.tmp 2]) rfl (.t .z .n) () rfl .nil

-- (*greenscreen/screen.Screen).field
def screen_Screen_field_m (R_screen_Screen_Do : (screen_Screen → command_Command → Option (screen_Screen × screen_Result))) (a0 : screen_Screen) (a1 : command_Field) : Option (screen_Screen × screen_Result) := (if a1.f_ID = (1 : UInt8) then some (a0, (⟨a1.f_Op, false, false, 0⟩ : screen_Result)) else (if a1.f_ID = (3 : UInt8) then (screen_size_m a1.f_Op).bind fun o5 => (screen_Screen_renew_m a0 o5).bind fun o8 => some (o8, (⟨0, false, false, 0⟩ : screen_Result)) else (R_screen_Screen_Do a0 a1.f_Inner).bind fun o11 => some (o11.1, (⟨(0 : UInt8), o11.2.f_Restore, o11.2.f_Alarm, o11.2.f_Err⟩ : screen_Result))))
theorem screen_Screen_field_c (R_screen_Screen_Do : (screen_Screen → command_Command → Option (screen_Screen × screen_Result))) (hR_screen_Screen_Do : ∀ (a0 : screen_Screen) (a1 : command_Command) (b0_0 : Nat) (b0_1 : Nat) (v0_2 : Value) (v1_0 : Value) (v1_1 : Value), Con Try.prog 20 #[.pointer (some ⟨b0_0, 0, none⟩), .agg #[vB a1.f_Kind, vB a1.f_WCC, v1_0, .int .i64 a1.f_Err, v1_1]] [.blk b0_0 [.int .i64 a0.f_sizes_0.f_Rows, .int .i64 a0.f_sizes_0.f_Cols, .int .i64 a0.f_sizes_1.f_Rows, .int .i64 a0.f_sizes_1.f_Cols, .int .i64 a0.f_which, .pointer (some ⟨b0_1, 0, none⟩)] 64, .blk b0_1 [.int .i64 a0.f_p.f_size.f_Rows, .int .i64 a0.f_p.f_size.f_Cols, v0_2, .int .i64 a0.f_p.f_cursor] 66, .own v0_2 44 k_api_Cell a0.f_p.f_cells, .ro (kSl k_api_Order) [v1_0] a1.f_Orders, .ro (kSl k_command_Field) [v1_1] a1.f_Fields] (R_screen_Screen_Do a0 a1) (fun (o : screen_Screen × screen_Result) (x : Nat × Value) => .agg #[vB o.2.f_Reply, .bool o.2.f_Restore, .bool o.2.f_Alarm, .int .i64 o.2.f_Err]) (fun (o : screen_Screen × screen_Result) (x : Nat × Value) => [.blk b0_0 [.int .i64 o.1.f_sizes_0.f_Rows, .int .i64 o.1.f_sizes_0.f_Cols, .int .i64 o.1.f_sizes_1.f_Rows, .int .i64 o.1.f_sizes_1.f_Cols, .int .i64 o.1.f_which, .pointer (some ⟨x.1, 0, none⟩)] 64, .blk x.1 [.int .i64 o.1.f_p.f_size.f_Rows, .int .i64 o.1.f_p.f_size.f_Cols, x.2, .int .i64 o.1.f_p.f_cursor] 66, .own x.2 44 k_api_Cell o.1.f_p.f_cells])) (a0 : screen_Screen) (a1 : command_Field) (b0_0 : Nat) (b0_1 : Nat) (v0_2 : Value) (v1_0 : Value) (v1_1 : Value) : Con Try.prog 59 #[.pointer (some ⟨b0_0, 0, none⟩), .agg #[vB a1.f_ID, vB a1.f_Op, vB a1.f_Inner.f_Kind, vB a1.f_Inner.f_WCC, v1_0, .int .i64 a1.f_Inner.f_Err, v1_1]] [.blk b0_0 [.int .i64 a0.f_sizes_0.f_Rows, .int .i64 a0.f_sizes_0.f_Cols, .int .i64 a0.f_sizes_1.f_Rows, .int .i64 a0.f_sizes_1.f_Cols, .int .i64 a0.f_which, .pointer (some ⟨b0_1, 0, none⟩)] 64, .blk b0_1 [.int .i64 a0.f_p.f_size.f_Rows, .int .i64 a0.f_p.f_size.f_Cols, v0_2, .int .i64 a0.f_p.f_cursor] 66, .own v0_2 44 k_api_Cell a0.f_p.f_cells, .ro (kSl k_api_Order) [v1_0] a1.f_Inner.f_Orders, .ro (kSl k_command_Field) [v1_1] a1.f_Inner.f_Fields] (screen_Screen_field_m R_screen_Screen_Do a0 a1) (fun (o : screen_Screen × screen_Result) (x : Nat × Value) => .agg #[vB o.2.f_Reply, .bool o.2.f_Restore, .bool o.2.f_Alarm, .int .i64 o.2.f_Err]) (fun (o : screen_Screen × screen_Result) (x : Nat × Value) => [.blk b0_0 [.int .i64 o.1.f_sizes_0.f_Rows, .int .i64 o.1.f_sizes_0.f_Cols, .int .i64 o.1.f_sizes_1.f_Rows, .int .i64 o.1.f_sizes_1.f_Cols, .int .i64 o.1.f_which, .pointer (some ⟨x.1, 0, none⟩)] 64, .blk x.1 [.int .i64 o.1.f_p.f_size.f_Rows, .int .i64 o.1.f_p.f_size.f_Cols, x.2, .int .i64 o.1.f_p.f_cursor] 66, .own x.2 44 k_api_Cell o.1.f_p.f_cells]) := by
  unfold screen_Screen_field_m
  refine con (args := [.pointer (some ⟨b0_0, 0, none⟩), .agg #[vB a1.f_ID, vB a1.f_Op, vB a1.f_Inner.f_Kind, vB a1.f_Inner.f_WCC, v1_0, .int .i64 a1.f_Inner.f_Err, v1_1]]) Try.func59 rfl 27 rfl (.c (.c .n)) rfl fun c hD hrn => ?_
  refine cSeq ?_
  refine cRegion ?_
  refine lCh (cBox (cs := [vB a1.f_ID, vB a1.f_Op, vB a1.f_Inner.f_Kind, vB a1.f_Inner.f_WCC, v1_0, .int .i64 a1.f_Inner.f_Err, v1_1]) (.t (.s .z)) rfl) rfl rfl fun b1 => ?_
  refine lCh (cAlloc (cs := [vB 0, .bool false, .bool false, .int .i64 0]) zer_37 rfl) rfl rfl fun b2 => ?_
  refine lKeep (.k (.k (.k .n))) ?_
  refine lNil ?_
  refine xCode ?_
  refine cSeq ?_
  refine cSeq ?_
  refine cRegion ?_
  refine lRd (dFld fld_102_0 (by decide) (.t (.s .z)) rfl) rfl rfl ?_
  refine lRd (dLoad (.s .z) agg_5 (.t .z) rfl) rfl rfl ?_
  refine lKeep (.k (.d (.k (.k (.k .n))))) ?_
  refine lNil ?_
  refine xCode ?_
  refine cBlock ?_
  refine cSeq ?_
  refine cRegion ?_
  refine lRd (dEqB (.t .z) (.c (v' := vB 1) rfl)) rfl rfl ?_
  refine lRd (dAssign (.t .z)) rfl rfl ?_
  refine lKeep (.k (.d (.k (.k (.k (.k .n)))))) ?_
  refine lNil ?_
  refine xCode ?_
  refine cCond (.t .z) (fun h3 => ?_) (fun h3 => ?_)
  · refine cSeq ?_
    refine cRegion ?_
    refine lRd (dFld fld_102_1 (by decide) (.t (.s (.s (.s .z)))) rfl) rfl rfl ?_
    refine lRd (dLoad (.s .z) agg_5 (.t .z) rfl) rfl rfl ?_
    refine lRd (dBuild (cs := [vB a1.f_Op, .bool false, .bool false, .int .i64 0]) zer_37 rfl plc_37 (.c (.t .z) .n) rfl) rfl rfl ?_
    refine lChU (uStoreA (us := [vB a1.f_Op, .bool false, .bool false, .int .i64 0]) (cs' := [vB a1.f_Op, .bool false, .bool false, .int .i64 0]) .z siz_37 rfl (by intro u hu; simp only [List.mem_cons, List.not_mem_nil, or_false] at hu; rcases hu with rfl | rfl | rfl | rfl <;> first | rfl | assumption) rfl (by simp) (.t (.s (.s (.s (.s (.s .z)))))) (.t .z)) ?_
    refine lKeep (.d (.d (.d (.d (.d (.k (.k (.k .n)))))))) ?_
    refine lNil ?_
    refine xCode ?_
    refine cRet ?_
    refine rLeave hD ?_
    exact lvRet (rs := [.cell 4 37]) rfl (.a .z .z agg_37 siz_37 .n) (b0_1, v0_2) rfl (.c (.s (.s .z)) (.c (.s (.s .z)) (.c (.s (.s .z)) .nil)))
  · refine cSeq ?_
    refine cRegion ?_
    refine lRd (dEqB (.t (.s .z)) (.c (v' := vB 3) rfl)) rfl rfl ?_
    refine lRd (dAssign (.t .z)) rfl rfl ?_
    refine lKeep (.k (.d (.d (.d (.k (.k (.k .n))))))) ?_
    refine lNil ?_
    refine xCode ?_
    refine cCond (.t .z) (fun h4 => ?_) (fun h4 => ?_)
    · refine cSeq ?_
      refine cRegion ?_
      refine lRd (dMove (.t (.s (.s (.s .z))))) rfl rfl ?_
      refine lRd (dFld fld_102_1 (by decide) (.t (.s (.s (.s .z)))) rfl) rfl rfl ?_
      refine lRd (dLoad (.s .z) agg_5 (.t .z) rfl) rfl rfl ?_
      refine lCall fok_75 (.c (.t .z) .n) (screen_size_c a1.f_Op) .n rfl rfl fun o5 x6 h7 => ?_
      refine lCallN fok_25 (.c (.t (.s (.s (.s .z)))) (.c (.t .z) .n)) (screen_Screen_renew_c a0 o5 b0_0 b0_1 v0_2) (.c (.s (.s .z)) (.c (.s (.s .z)) (.c (.s (.s .z)) .n))) rfl fun o8 x9 h10 => ?_
      refine lKeep (.d (.d (.d (.d (.d (.k (.k (.k .n)))))))) ?_
      refine lNil ?_
      refine xCode ?_
      refine cSeq ?_
      refine cRegion ?_
      refine lRd (dBuild (cs := [vB 0, .bool false, .bool false, .int .i64 0]) zer_37 rfl plc_37 .n rfl) rfl rfl ?_
      refine lChU (uStoreA (us := [vB 0, .bool false, .bool false, .int .i64 0]) (cs' := [vB 0, .bool false, .bool false, .int .i64 0]) (.s (.s (.s .z))) siz_37 rfl (by intro u hu; simp only [List.mem_cons, List.not_mem_nil, or_false] at hu; rcases hu with rfl | rfl | rfl | rfl <;> first | rfl | assumption) rfl (by simp) (.t (.s .z)) (.t .z)) ?_
      refine lKeep (.d (.k (.k (.k .n)))) ?_
      refine lNil ?_
      refine xCode ?_
      refine cRet ?_
      refine rLeave hD ?_
      exact lvRet (rs := [.cell 4 37]) rfl (.a .z (.s (.s (.s .z))) agg_37 siz_37 .n) (x9.1, x9.2) rfl (.c .z (.c .z (.c .z .nil)))
    · refine cSkip ?_
      refine xBlock ?_
      refine xCode ?_
      refine cSeq ?_
      refine cRegion ?_
      refine lRd (dMove (.t (.s (.s (.s .z))))) rfl rfl ?_
      refine lRd (dFld fld_102_2 (by decide) (.t (.s (.s (.s .z)))) rfl) rfl rfl ?_
      refine lRd (dLoadA (us := [vB a1.f_Inner.f_Kind, vB a1.f_Inner.f_WCC, v1_0, .int .i64 a1.f_Inner.f_Err, v1_1]) (.s .z) agg_58 siz_58 rfl (.t .z) rfl) rfl rfl ?_
      refine lCall fok_20 (.c (.t (.s (.s .z))) (.c (.t .z) .n)) (hR_screen_Screen_Do a0 a1.f_Inner b0_0 b0_1 v0_2 v1_0 v1_1) (.c (.s (.s .z)) (.c (.s (.s .z)) (.c (.s (.s .z)) (.r (.s (.s .z)) (.r (.s (.s (.s .z))) .n))))) rfl rfl fun o11 x12 h13 => ?_
      refine lCh (cAlloc (cs := [vB 0, .bool false, .bool false, .int .i64 0]) zer_37 rfl) rfl rfl fun b14 => ?_
      refine lChU (uStoreA (us := [vB o11.2.f_Reply, .bool o11.2.f_Restore, .bool o11.2.f_Alarm, .int .i64 o11.2.f_Err]) (cs' := [vB o11.2.f_Reply, .bool o11.2.f_Restore, .bool o11.2.f_Alarm, .int .i64 o11.2.f_Err]) .z siz_37 rfl (by intro u hu; simp only [List.mem_cons, List.not_mem_nil, or_false] at hu; rcases hu with rfl | rfl | rfl | rfl <;> first | rfl | assumption) rfl (by simp) (.t .z) (.t (.s .z))) ?_
      refine lKeep (.k (.d (.d (.d (.d (.d (.k .n))))))) ?_
      refine lNil ?_
      refine xCode ?_
      refine cSeq ?_
      refine cRegion ?_
      refine lRd (dFld fld_37_0 (by decide) (.t .z) rfl) rfl rfl ?_
      refine lChU (uStore .z siz_5 rfl .z (.t .z) (.c (v' := vB 0) rfl)) ?_
      refine lKeep (.d (.k (.k .n))) ?_
      refine lNil ?_
      refine xCode ?_
      refine cSeq ?_
      refine cRegion ?_
      refine lRd (dLoadA (us := [vB (0 : UInt8), .bool o11.2.f_Restore, .bool o11.2.f_Alarm, .int .i64 o11.2.f_Err]) .z agg_37 siz_37 rfl (.t .z) rfl) rfl rfl ?_
      refine lChU (uStoreA (us := [vB (0 : UInt8), .bool o11.2.f_Restore, .bool o11.2.f_Alarm, .int .i64 o11.2.f_Err]) (cs' := [vB (0 : UInt8), .bool o11.2.f_Restore, .bool o11.2.f_Alarm, .int .i64 o11.2.f_Err]) (.s (.s (.s (.s .z)))) siz_37 rfl (by intro u hu; simp only [List.mem_cons, List.not_mem_nil, or_false] at hu; rcases hu with rfl | rfl | rfl | rfl <;> first | rfl | assumption) rfl (by simp) (.t (.s (.s .z))) (.t .z)) ?_
      refine lKeep (.d (.d (.k .n))) ?_
      refine lNil ?_
      refine xCode ?_
      refine cRet ?_
      refine rLeave hD ?_
      exact lvRet (rs := [.cell 4 37]) rfl (.a .z (.s (.s (.s (.s .z)))) agg_37 siz_37 .n) (x12.1, x12.2) rfl (.c (.s .z) (.c (.s .z) (.c (.s .z) .nil)))

-- (*greenscreen/screen.Screen).fields
def screen_Screen_fields_l1 (K : Nat) (a1 : command_Command) (R_screen_Screen_Do : (screen_Screen → command_Command → Option (screen_Screen × screen_Result))) : Nat → (Int × UInt8 × Bool × Bool × Int × Int × Int × Int × Int × Int × Int × (List api_Cell) × Int) → Option (Sum (UInt8 × Bool × Bool × Int × Int × Int × Int × Int × Int × Int × (List api_Cell) × Int) (screen_Screen × screen_Result))
  | 0, _ => none
  | n + 1, s4 => (if s4.1 < (a1.f_Fields.length : Int) then (ix a1.f_Fields s4.1).bind fun y10 => (screen_Screen_field_m R_screen_Screen_Do (⟨(⟨s4.2.2.2.2.1, s4.2.2.2.2.2.1⟩ : api_Size), (⟨s4.2.2.2.2.2.2.1, s4.2.2.2.2.2.2.2.1⟩ : api_Size), s4.2.2.2.2.2.2.2.2.1, (⟨(⟨s4.2.2.2.2.2.2.2.2.2.1, s4.2.2.2.2.2.2.2.2.2.2.1⟩ : api_Size), s4.2.2.2.2.2.2.2.2.2.2.2.1, s4.2.2.2.2.2.2.2.2.2.2.2.2⟩ : plane_Plane)⟩ : screen_Screen) y10).bind fun o17 => (if o17.2.f_Err ≠ 0 then some (Sum.inr (o17.1, (⟨0, false, false, o17.2.f_Err⟩ : screen_Result))) else ((if s4.2.1 = (0 : UInt8) then some o17.2.f_Reply else some s4.2.1)).bind fun (s23 : UInt8) => (if s4.2.2.1 = true then (if s4.2.2.2.1 = true then (screen_Screen_fields_l1 K a1 R_screen_Screen_Do n) (w64 (s4.1 + 1), s23, true, true, o17.1.f_sizes_0.f_Rows, o17.1.f_sizes_0.f_Cols, o17.1.f_sizes_1.f_Rows, o17.1.f_sizes_1.f_Cols, o17.1.f_which, o17.1.f_p.f_size.f_Rows, o17.1.f_p.f_size.f_Cols, o17.1.f_p.f_cells, o17.1.f_p.f_cursor) else (screen_Screen_fields_l1 K a1 R_screen_Screen_Do n) (w64 (s4.1 + 1), s23, true, o17.2.f_Alarm, o17.1.f_sizes_0.f_Rows, o17.1.f_sizes_0.f_Cols, o17.1.f_sizes_1.f_Rows, o17.1.f_sizes_1.f_Cols, o17.1.f_which, o17.1.f_p.f_size.f_Rows, o17.1.f_p.f_size.f_Cols, o17.1.f_p.f_cells, o17.1.f_p.f_cursor)) else (if s4.2.2.2.1 = true then (screen_Screen_fields_l1 K a1 R_screen_Screen_Do n) (w64 (s4.1 + 1), s23, o17.2.f_Restore, true, o17.1.f_sizes_0.f_Rows, o17.1.f_sizes_0.f_Cols, o17.1.f_sizes_1.f_Rows, o17.1.f_sizes_1.f_Cols, o17.1.f_which, o17.1.f_p.f_size.f_Rows, o17.1.f_p.f_size.f_Cols, o17.1.f_p.f_cells, o17.1.f_p.f_cursor) else (screen_Screen_fields_l1 K a1 R_screen_Screen_Do n) (w64 (s4.1 + 1), s23, o17.2.f_Restore, o17.2.f_Alarm, o17.1.f_sizes_0.f_Rows, o17.1.f_sizes_0.f_Cols, o17.1.f_sizes_1.f_Rows, o17.1.f_sizes_1.f_Cols, o17.1.f_which, o17.1.f_p.f_size.f_Rows, o17.1.f_p.f_size.f_Cols, o17.1.f_p.f_cells, o17.1.f_p.f_cursor)))) else some (Sum.inl (s4.2.1, s4.2.2.1, s4.2.2.2.1, s4.2.2.2.2.1, s4.2.2.2.2.2.1, s4.2.2.2.2.2.2.1, s4.2.2.2.2.2.2.2.1, s4.2.2.2.2.2.2.2.2.1, s4.2.2.2.2.2.2.2.2.2.1, s4.2.2.2.2.2.2.2.2.2.2.1, s4.2.2.2.2.2.2.2.2.2.2.2.1, s4.2.2.2.2.2.2.2.2.2.2.2.2)))
def screen_Screen_fields_m (K : Nat) (R_screen_Screen_Do : (screen_Screen → command_Command → Option (screen_Screen × screen_Result))) (a0 : screen_Screen) (a1 : command_Command) : Option (screen_Screen × screen_Result) := (screen_Screen_fields_l1 K a1 R_screen_Screen_Do K (0, 0, false, false, a0.f_sizes_0.f_Rows, a0.f_sizes_0.f_Cols, a0.f_sizes_1.f_Rows, a0.f_sizes_1.f_Cols, a0.f_which, a0.f_p.f_size.f_Rows, a0.f_p.f_size.f_Cols, a0.f_p.f_cells, a0.f_p.f_cursor)).bind (onS fun (s28 : UInt8 × Bool × Bool × Int × Int × Int × Int × Int × Int × Int × (List api_Cell) × Int) => (if a1.f_Err ≠ 0 then some ((⟨(⟨s28.2.2.2.1, s28.2.2.2.2.1⟩ : api_Size), (⟨s28.2.2.2.2.2.1, s28.2.2.2.2.2.2.1⟩ : api_Size), s28.2.2.2.2.2.2.2.1, (⟨(⟨s28.2.2.2.2.2.2.2.2.1, s28.2.2.2.2.2.2.2.2.2.1⟩ : api_Size), s28.2.2.2.2.2.2.2.2.2.2.1, s28.2.2.2.2.2.2.2.2.2.2.2⟩ : plane_Plane)⟩ : screen_Screen), (⟨0, false, false, a1.f_Err⟩ : screen_Result)) else some ((⟨(⟨s28.2.2.2.1, s28.2.2.2.2.1⟩ : api_Size), (⟨s28.2.2.2.2.2.1, s28.2.2.2.2.2.2.1⟩ : api_Size), s28.2.2.2.2.2.2.2.1, (⟨(⟨s28.2.2.2.2.2.2.2.2.1, s28.2.2.2.2.2.2.2.2.2.1⟩ : api_Size), s28.2.2.2.2.2.2.2.2.2.2.1, s28.2.2.2.2.2.2.2.2.2.2.2⟩ : plane_Plane)⟩ : screen_Screen), (⟨s28.1, s28.2.1, s28.2.2.1, 0⟩ : screen_Result))))
theorem screen_Screen_fields_c (K : Nat) (R_screen_Screen_Do : (screen_Screen → command_Command → Option (screen_Screen × screen_Result))) (hR_screen_Screen_Do : ∀ (a0 : screen_Screen) (a1 : command_Command) (b0_0 : Nat) (b0_1 : Nat) (v0_2 : Value) (v1_0 : Value) (v1_1 : Value), Con Try.prog 20 #[.pointer (some ⟨b0_0, 0, none⟩), .agg #[vB a1.f_Kind, vB a1.f_WCC, v1_0, .int .i64 a1.f_Err, v1_1]] [.blk b0_0 [.int .i64 a0.f_sizes_0.f_Rows, .int .i64 a0.f_sizes_0.f_Cols, .int .i64 a0.f_sizes_1.f_Rows, .int .i64 a0.f_sizes_1.f_Cols, .int .i64 a0.f_which, .pointer (some ⟨b0_1, 0, none⟩)] 64, .blk b0_1 [.int .i64 a0.f_p.f_size.f_Rows, .int .i64 a0.f_p.f_size.f_Cols, v0_2, .int .i64 a0.f_p.f_cursor] 66, .own v0_2 44 k_api_Cell a0.f_p.f_cells, .ro (kSl k_api_Order) [v1_0] a1.f_Orders, .ro (kSl k_command_Field) [v1_1] a1.f_Fields] (R_screen_Screen_Do a0 a1) (fun (o : screen_Screen × screen_Result) (x : Nat × Value) => .agg #[vB o.2.f_Reply, .bool o.2.f_Restore, .bool o.2.f_Alarm, .int .i64 o.2.f_Err]) (fun (o : screen_Screen × screen_Result) (x : Nat × Value) => [.blk b0_0 [.int .i64 o.1.f_sizes_0.f_Rows, .int .i64 o.1.f_sizes_0.f_Cols, .int .i64 o.1.f_sizes_1.f_Rows, .int .i64 o.1.f_sizes_1.f_Cols, .int .i64 o.1.f_which, .pointer (some ⟨x.1, 0, none⟩)] 64, .blk x.1 [.int .i64 o.1.f_p.f_size.f_Rows, .int .i64 o.1.f_p.f_size.f_Cols, x.2, .int .i64 o.1.f_p.f_cursor] 66, .own x.2 44 k_api_Cell o.1.f_p.f_cells])) (a0 : screen_Screen) (a1 : command_Command) (b0_0 : Nat) (b0_1 : Nat) (v0_2 : Value) (v1_0 : Value) (v1_1 : Value) : Con Try.prog 38 #[.pointer (some ⟨b0_0, 0, none⟩), .agg #[vB a1.f_Kind, vB a1.f_WCC, v1_0, .int .i64 a1.f_Err, v1_1]] [.blk b0_0 [.int .i64 a0.f_sizes_0.f_Rows, .int .i64 a0.f_sizes_0.f_Cols, .int .i64 a0.f_sizes_1.f_Rows, .int .i64 a0.f_sizes_1.f_Cols, .int .i64 a0.f_which, .pointer (some ⟨b0_1, 0, none⟩)] 64, .blk b0_1 [.int .i64 a0.f_p.f_size.f_Rows, .int .i64 a0.f_p.f_size.f_Cols, v0_2, .int .i64 a0.f_p.f_cursor] 66, .own v0_2 44 k_api_Cell a0.f_p.f_cells, .ro (kSl k_api_Order) [v1_0] a1.f_Orders, .ro (kSl k_command_Field) [v1_1] a1.f_Fields] (screen_Screen_fields_m K R_screen_Screen_Do a0 a1) (fun (o : screen_Screen × screen_Result) (x : Nat × Value) => .agg #[vB o.2.f_Reply, .bool o.2.f_Restore, .bool o.2.f_Alarm, .int .i64 o.2.f_Err]) (fun (o : screen_Screen × screen_Result) (x : Nat × Value) => [.blk b0_0 [.int .i64 o.1.f_sizes_0.f_Rows, .int .i64 o.1.f_sizes_0.f_Cols, .int .i64 o.1.f_sizes_1.f_Rows, .int .i64 o.1.f_sizes_1.f_Cols, .int .i64 o.1.f_which, .pointer (some ⟨x.1, 0, none⟩)] 64, .blk x.1 [.int .i64 o.1.f_p.f_size.f_Rows, .int .i64 o.1.f_p.f_size.f_Cols, x.2, .int .i64 o.1.f_p.f_cursor] 66, .own x.2 44 k_api_Cell o.1.f_p.f_cells]) := by
  unfold screen_Screen_fields_m
  refine con (args := [.pointer (some ⟨b0_0, 0, none⟩), .agg #[vB a1.f_Kind, vB a1.f_WCC, v1_0, .int .i64 a1.f_Err, v1_1]]) Try.func38 rfl 53 rfl (.c (.c .n)) rfl fun c hD hrn => ?_
  refine cSeq ?_
  refine cRegion ?_
  refine lCh (cBox (cs := [vB a1.f_Kind, vB a1.f_WCC, v1_0, .int .i64 a1.f_Err, v1_1]) (.t (.s .z)) rfl) rfl rfl fun b1 => ?_
  refine lCh (cAlloc (cs := [vB 0, .bool false, .bool false, .int .i64 0]) zer_37 rfl) rfl rfl fun b2 => ?_
  refine lKeep (.k (.k (.k .n))) ?_
  refine lNil ?_
  refine xCode ?_
  refine cSeq ?_
  refine cRegion ?_
  refine lCh (cAlloc (cs := [vB 0, .bool false, .bool false, .int .i64 0]) zer_37 rfl) rfl rfl fun b3 => ?_
  refine lNil ?_
  refine xCode ?_
  refine cSeq ?_
  refine cSeq ?_
  refine cRegion ?_
  refine lRd (dFld fld_58_4 (by decide) (.t (.s (.s .z))) rfl) rfl rfl ?_
  refine lRd (dLoad (.s (.s .z)) agg_56 (.t .z) rfl) rfl rfl ?_
  refine lRd (dLen (at_ := #[56]) (slRo (.s (.s (.s (.s (.s (.s (.s .z)))))))) rfl und_56 (.t .z)) rfl rfl ?_
  refine lRd (dMove (.c rfl)) rfl rfl ?_
  refine lKeep (.k (.k (.k (.d (.k (.k (.k (.k .n)))))))) ?_
  refine lNil ?_
  refine xCode ?_
  refine cLoopR (S := Int × UInt8 × Bool × Bool × Int × Int × Int × Int × Int × Int × Int × (List api_Cell) × Int) (X := Nat × Value) (S' := UInt8 × Bool × Bool × Int × Int × Int × Int × Int × Int × Int × (List api_Cell) × Int) (X' := Nat × Value) (screen_Screen_fields_l1 K a1 R_screen_Screen_Do) (fun (s : Int × UInt8 × Bool × Bool × Int × Int × Int × Int × Int × Int × Int × (List api_Cell) × Int) (x : Nat × Value) => [(12, .int .i64 s.1), (11, .int .i64 (a1.f_Fields.length : Int)), (10, v1_1), (5, .pointer (some ⟨b3, 0, none⟩)), (4, .pointer (some ⟨b2, 0, none⟩)), (3, .pointer (some ⟨b1, 0, none⟩)), (0, .pointer (some ⟨b0_0, 0, none⟩))]) (fun (s : Int × UInt8 × Bool × Bool × Int × Int × Int × Int × Int × Int × Int × (List api_Cell) × Int) (x : Nat × Value) => [.blk b3 [vB s.2.1, .bool s.2.2.1, .bool s.2.2.2.1, .int .i64 0] 37, .blk b2 [vB 0, .bool false, .bool false, .int .i64 0] 37, .blk b1 [vB a1.f_Kind, vB a1.f_WCC, v1_0, .int .i64 a1.f_Err, v1_1] 58, .blk b0_0 [.int .i64 s.2.2.2.2.1, .int .i64 s.2.2.2.2.2.1, .int .i64 s.2.2.2.2.2.2.1, .int .i64 s.2.2.2.2.2.2.2.1, .int .i64 s.2.2.2.2.2.2.2.2.1, .pointer (some ⟨x.1, 0, none⟩)] 64, .blk x.1 [.int .i64 s.2.2.2.2.2.2.2.2.2.1, .int .i64 s.2.2.2.2.2.2.2.2.2.2.1, x.2, .int .i64 s.2.2.2.2.2.2.2.2.2.2.2.2] 66, .own x.2 44 k_api_Cell s.2.2.2.2.2.2.2.2.2.2.2.1, .ro (kSl k_api_Order) [v1_0] a1.f_Orders, .ro (kSl k_command_Field) [v1_1] a1.f_Fields]) (fun (s : UInt8 × Bool × Bool × Int × Int × Int × Int × Int × Int × Int × (List api_Cell) × Int) (x : Nat × Value) => [(5, .pointer (some ⟨b3, 0, none⟩)), (4, .pointer (some ⟨b2, 0, none⟩)), (3, .pointer (some ⟨b1, 0, none⟩))]) (fun (s : UInt8 × Bool × Bool × Int × Int × Int × Int × Int × Int × Int × (List api_Cell) × Int) (x : Nat × Value) => [.blk b3 [vB s.1, .bool s.2.1, .bool s.2.2.1, .int .i64 0] 37, .blk b2 [vB 0, .bool false, .bool false, .int .i64 0] 37, .blk b1 [vB a1.f_Kind, vB a1.f_WCC, v1_0, .int .i64 a1.f_Err, v1_1] 58, .blk b0_0 [.int .i64 s.2.2.2.1, .int .i64 s.2.2.2.2.1, .int .i64 s.2.2.2.2.2.1, .int .i64 s.2.2.2.2.2.2.1, .int .i64 s.2.2.2.2.2.2.2.1, .pointer (some ⟨x.1, 0, none⟩)] 64, .blk x.1 [.int .i64 s.2.2.2.2.2.2.2.2.1, .int .i64 s.2.2.2.2.2.2.2.2.2.1, x.2, .int .i64 s.2.2.2.2.2.2.2.2.2.2.2] 66, .own x.2 44 k_api_Cell s.2.2.2.2.2.2.2.2.2.2.1, .ro (kSl k_api_Order) [v1_0] a1.f_Orders, .ro (kSl k_command_Field) [v1_1] a1.f_Fields]) K (0, 0, false, false, a0.f_sizes_0.f_Rows, a0.f_sizes_0.f_Cols, a0.f_sizes_1.f_Rows, a0.f_sizes_1.f_Cols, a0.f_which, a0.f_p.f_size.f_Rows, a0.f_p.f_size.f_Cols, a0.f_p.f_cells, a0.f_p.f_cursor) (b0_1, v0_2) (.c .z (.c (.s .z) (.c (.s (.s .z)) (.c (.s (.s (.s .z))) (.c (.s (.s (.s (.s .z)))) (.c (.s (.s (.s (.s (.s .z))))) (.c (.s (.s (.s (.s (.s (.s .z)))))) .n))))))) (.c .z (.c .z (.c .z (.c .z (.c .z (.c .z (.c .z (.c .z .nil)))))))) (fun _ => rfl) (fun n6 I7 h8 s4 x5 => ?_) (fun s28 x29 => ?_)
  · rw [screen_Screen_fields_l1]
    refine cSeq ?_
    refine cRegion ?_
    refine lRd (dLt (.t .z) (.t (.s .z))) rfl rfl ?_
    refine lNil ?_
    refine xCode ?_
    refine cSeq ?_
    refine cCond (.t .z) (fun h9 => ?_) (fun h9 => ?_)
    · refine cSkip ?_
      refine xCode ?_
      refine cSeq ?_
      refine cBlock ?_
      refine cSeq ?_
      refine cRegion ?_
      refine lIx fun y10 h11 h12 => ?_
      refine lRd (dIxAddr (slRo (.s (.s (.s (.s (.s (.s (.s .z)))))))) und_56 siz_102 (.t (.s (.s (.s .z)))) (.t (.s .z)) h11 h12) rfl rfl ?_
      refine lCh (cLoadRo (X := Value × Value) (.s (.s (.s (.s (.s (.s (.s .z))))))) (fun x13 => [vB y10.f_ID, vB y10.f_Op, vB y10.f_Inner.f_Kind, vB y10.f_Inner.f_WCC, x13.1, .int .i64 y10.f_Inner.f_Err, x13.2]) (fun x13 => [.ro (kSl k_api_Order) [x13.1] y10.f_Inner.f_Orders, .ro (kSl k_command_Field) [x13.2] y10.f_Inner.f_Fields]) agg_102 siz_102 rfl (.t .z) h12 (open_command_Field _)) rfl rfl fun x13 => ?_
      refine lCh (cAlloc (cs := [vB 0, vB 0, vB 0, vB 0, .slice none 0 0, .int .i64 0, .slice none 0 0]) zer_102 rfl) rfl rfl fun b14 => ?_
      refine lFact (oneRo (.s .z)) fun h15 => ?_
      refine lFact (oneRo (.s (.s .z))) fun h16 => ?_
      refine lChU (uStoreA (us := [vB y10.f_ID, vB y10.f_Op, vB y10.f_Inner.f_Kind, vB y10.f_Inner.f_WCC, x13.1, .int .i64 y10.f_Inner.f_Err, x13.2]) (cs' := [vB y10.f_ID, vB y10.f_Op, vB y10.f_Inner.f_Kind, vB y10.f_Inner.f_WCC, x13.1, .int .i64 y10.f_Inner.f_Err, x13.2]) .z siz_102 rfl (by intro u hu; simp only [List.mem_cons, List.not_mem_nil, or_false] at hu; rcases hu with rfl | rfl | rfl | rfl | rfl | rfl | rfl <;> first | rfl | assumption) rfl (by simp) (.t .z) (.t (.s .z))) ?_
      refine lNil ?_
      refine xCode ?_
      refine cSeq ?_
      refine cRegion ?_
      refine lRd (dMove (.t (.s (.s (.s (.s (.s (.s (.s (.s (.s (.s .z)))))))))))) rfl rfl ?_
      refine lRd (dLoadA (us := [vB y10.f_ID, vB y10.f_Op, vB y10.f_Inner.f_Kind, vB y10.f_Inner.f_WCC, x13.1, .int .i64 y10.f_Inner.f_Err, x13.2]) .z agg_102 siz_102 rfl (.t (.s .z)) rfl) rfl rfl ?_
      refine lCall fok_59 (.c (.t (.s .z)) (.c (.t .z) .n)) (screen_Screen_field_c R_screen_Screen_Do hR_screen_Screen_Do (⟨(⟨s4.2.2.2.2.1, s4.2.2.2.2.2.1⟩ : api_Size), (⟨s4.2.2.2.2.2.2.1, s4.2.2.2.2.2.2.2.1⟩ : api_Size), s4.2.2.2.2.2.2.2.2.1, (⟨(⟨s4.2.2.2.2.2.2.2.2.2.1, s4.2.2.2.2.2.2.2.2.2.2.1⟩ : api_Size), s4.2.2.2.2.2.2.2.2.2.2.2.1, s4.2.2.2.2.2.2.2.2.2.2.2.2⟩ : plane_Plane)⟩ : screen_Screen) y10 b0_0 x5.1 x5.2 x13.1 x13.2) (.c (.s (.s (.s (.s (.s (.s .z)))))) (.c (.s (.s (.s (.s (.s (.s .z)))))) (.c (.s (.s (.s (.s (.s (.s .z)))))) (.r (.s .z) (.r (.s (.s .z)) .n))))) rfl rfl fun o17 x18 h19 => ?_
      refine lCh (cAlloc (cs := [vB 0, .bool false, .bool false, .int .i64 0]) zer_37 rfl) rfl rfl fun b20 => ?_
      refine lChU (uStoreA (us := [vB o17.2.f_Reply, .bool o17.2.f_Restore, .bool o17.2.f_Alarm, .int .i64 o17.2.f_Err]) (cs' := [vB o17.2.f_Reply, .bool o17.2.f_Restore, .bool o17.2.f_Alarm, .int .i64 o17.2.f_Err]) .z siz_37 rfl (by intro u hu; simp only [List.mem_cons, List.not_mem_nil, or_false] at hu; rcases hu with rfl | rfl | rfl | rfl <;> first | rfl | assumption) rfl (by simp) (.t .z) (.t (.s .z))) ?_
      refine lNil ?_
      refine xCode ?_
      refine cSeq ?_
      refine cSeq ?_
      refine cRegion ?_
      refine lRd (dFld fld_37_3 (by decide) (.t .z) rfl) rfl rfl ?_
      refine lRd (dLoad .z agg_35 (.t .z) rfl) rfl rfl ?_
      refine lRd (dNe (.t .z) (.c rfl)) rfl rfl ?_
      refine lNil ?_
      refine xCode ?_
      refine cCond (.t .z) (fun h21 => ?_) (fun h21 => ?_)
      · refine cSeq ?_
        refine cRegion ?_
        refine lRd (dFld fld_37_3 (by decide) (.t (.s (.s (.s .z)))) rfl) rfl rfl ?_
        refine lRd (dLoad .z agg_35 (.t .z) rfl) rfl rfl ?_
        refine lRd (dBuild (cs := [vB 0, .bool false, .bool false, .int .i64 o17.2.f_Err]) zer_37 rfl plc_37 (.c (.t .z) .n) rfl) rfl rfl ?_
        refine lChU (uStoreA (us := [vB 0, .bool false, .bool false, .int .i64 o17.2.f_Err]) (cs' := [vB 0, .bool false, .bool false, .int .i64 o17.2.f_Err]) (.s (.s (.s (.s (.s (.s (.s (.s .z)))))))) siz_37 rfl (by intro u hu; simp only [List.mem_cons, List.not_mem_nil, or_false] at hu; rcases hu with rfl | rfl | rfl | rfl <;> first | rfl | assumption) rfl (by simp) (.t (.s (.s (.s (.s (.s (.s (.s (.s (.s (.s (.s (.s (.s (.s (.s (.s (.s (.s .z))))))))))))))))))) (.t .z)) ?_
        refine lNil ?_
        refine xCode ?_
        refine cRet ?_
        refine rInner ?_
        refine rLeave hD ?_
        exact lvRet (rs := [.cell 4 37]) rfl (.a (.s (.s (.s (.s (.s (.s (.s (.s (.s (.s (.s (.s (.s (.s (.s (.s (.s (.s .z)))))))))))))))))) (.s (.s (.s (.s (.s (.s (.s (.s .z)))))))) agg_37 siz_37 .n) (x18.1, x18.2) rfl (.c (.s .z) (.c (.s .z) (.c (.s .z) .nil)))
      · refine cSkip ?_
        refine xCode ?_
        refine cSeq ?_
        refine cSeq ?_
        refine cRegion ?_
        refine lRd (dFld fld_37_0 (by decide) (.t (.s (.s (.s (.s (.s (.s (.s (.s (.s (.s (.s (.s (.s (.s .z))))))))))))))) rfl) rfl rfl ?_
        refine lRd (dLoad (.s (.s (.s (.s (.s (.s (.s .z))))))) agg_5 (.t .z) rfl) rfl rfl ?_
        refine lRd (dEqB (.t .z) (.c (v' := vB 0) rfl)) rfl rfl ?_
        refine lNil ?_
        refine xCode ?_
        refine cJoin (S := UInt8) (X := Unit) (fun (s : UInt8) (x : Unit) => [(27, .bool (decide (s4.2.1 = (0 : UInt8)))), (26, vB s4.2.1), (25, .pointer (some ⟨b3, 0, none⟩)), (21, .bool (decide (o17.2.f_Err ≠ 0))), (20, .int .i64 o17.2.f_Err), (19, .pointer (some ⟨b20, 3, none⟩)), (8, .pointer (some ⟨b20, 0, none⟩)), (18, .agg #[vB o17.2.f_Reply, .bool o17.2.f_Restore, .bool o17.2.f_Alarm, .int .i64 o17.2.f_Err]), (17, .agg #[vB y10.f_ID, vB y10.f_Op, vB y10.f_Inner.f_Kind, vB y10.f_Inner.f_WCC, x13.1, .int .i64 y10.f_Inner.f_Err, x13.2]), (16, .pointer (some ⟨b0_0, 0, none⟩)), (7, .pointer (some ⟨b14, 0, none⟩)), (15, .agg #[vB y10.f_ID, vB y10.f_Op, vB y10.f_Inner.f_Kind, vB y10.f_Inner.f_WCC, x13.1, .int .i64 y10.f_Inner.f_Err, x13.2]), (13, .bool (decide (s4.1 < (a1.f_Fields.length : Int)))), (12, .int .i64 s4.1), (11, .int .i64 (a1.f_Fields.length : Int)), (10, v1_1), (5, .pointer (some ⟨b3, 0, none⟩)), (4, .pointer (some ⟨b2, 0, none⟩)), (3, .pointer (some ⟨b1, 0, none⟩)), (0, .pointer (some ⟨b0_0, 0, none⟩))]) (fun (s : UInt8) (x : Unit) => [.blk b20 [vB o17.2.f_Reply, .bool o17.2.f_Restore, .bool o17.2.f_Alarm, .int .i64 o17.2.f_Err] 37, .blk b0_0 [.int .i64 o17.1.f_sizes_0.f_Rows, .int .i64 o17.1.f_sizes_0.f_Cols, .int .i64 o17.1.f_sizes_1.f_Rows, .int .i64 o17.1.f_sizes_1.f_Cols, .int .i64 o17.1.f_which, .pointer (some ⟨x18.1, 0, none⟩)] 64, .blk x18.1 [.int .i64 o17.1.f_p.f_size.f_Rows, .int .i64 o17.1.f_p.f_size.f_Cols, x18.2, .int .i64 o17.1.f_p.f_cursor] 66, .own x18.2 44 k_api_Cell o17.1.f_p.f_cells, .blk b14 [vB y10.f_ID, vB y10.f_Op, vB y10.f_Inner.f_Kind, vB y10.f_Inner.f_WCC, x13.1, .int .i64 y10.f_Inner.f_Err, x13.2] 102, .ro (kSl k_api_Order) [x13.1] y10.f_Inner.f_Orders, .ro (kSl k_command_Field) [x13.2] y10.f_Inner.f_Fields, .blk b3 [vB s, .bool s4.2.2.1, .bool s4.2.2.2.1, .int .i64 0] 37, .blk b2 [vB 0, .bool false, .bool false, .int .i64 0] 37, .blk b1 [vB a1.f_Kind, vB a1.f_WCC, v1_0, .int .i64 a1.f_Err, v1_1] 58, .ro (kSl k_api_Order) [v1_0] a1.f_Orders, .ro (kSl k_command_Field) [v1_1] a1.f_Fields]) ?_ (fun s23 x24 => ?_)
        · refine cCond (.t .z) (fun h22 => ?_) (fun h22 => ?_)
          · refine cRegion ?_
            refine lRd (dFld fld_37_0 (by decide) (.t (.s (.s (.s (.s (.s (.s .z))))))) rfl) rfl rfl ?_
            refine lRd (dLoad .z agg_5 (.t .z) rfl) rfl rfl ?_
            refine lRd (dFld fld_37_0 (by decide) (.t (.s (.s (.s (.s (.s (.s (.s (.s (.s (.s (.s (.s (.s (.s (.s (.s (.s (.s (.s .z)))))))))))))))))))) rfl) rfl rfl ?_
            refine lChU (uStore (.s (.s (.s (.s (.s (.s (.s .z))))))) siz_5 rfl .z (.t .z) (.t (.s .z))) ?_
            refine lNil ?_
            exact xJoin o17.2.f_Reply () (.c (.s (.s (.s .z))) (.c (.s (.s (.s (.s .z)))) (.c (.s (.s (.s (.s (.s .z))))) (.c (.s (.s (.s (.s (.s (.s .z)))))) (.c (.s (.s (.s (.s (.s (.s (.s .z))))))) (.c (.s (.s (.s (.s (.s (.s (.s (.s .z)))))))) (.c (.s (.s (.s (.s (.s (.s (.s (.s (.s .z))))))))) (.c (.s (.s (.s (.s (.s (.s (.s (.s (.s (.s .z)))))))))) (.c (.s (.s (.s (.s (.s (.s (.s (.s (.s (.s (.s .z))))))))))) (.c (.s (.s (.s (.s (.s (.s (.s (.s (.s (.s (.s (.s .z)))))))))))) (.c (.s (.s (.s (.s (.s (.s (.s (.s (.s (.s (.s (.s (.s .z))))))))))))) (.c (.s (.s (.s (.s (.s (.s (.s (.s (.s (.s (.s (.s (.s (.s .z)))))))))))))) (.c (.s (.s (.s (.s (.s (.s (.s (.s (.s (.s (.s (.s (.s (.s (.s (.s .z)))))))))))))))) (.c (.s (.s (.s (.s (.s (.s (.s (.s (.s (.s (.s (.s (.s (.s (.s (.s (.s .z))))))))))))))))) (.c (.s (.s (.s (.s (.s (.s (.s (.s (.s (.s (.s (.s (.s (.s (.s (.s (.s (.s .z)))))))))))))))))) (.c (.s (.s (.s (.s (.s (.s (.s (.s (.s (.s (.s (.s (.s (.s (.s (.s (.s (.s (.s .z))))))))))))))))))) (.c (.s (.s (.s (.s (.s (.s (.s (.s (.s (.s (.s (.s (.s (.s (.s (.s (.s (.s (.s (.s .z)))))))))))))))))))) (.c (.s (.s (.s (.s (.s (.s (.s (.s (.s (.s (.s (.s (.s (.s (.s (.s (.s (.s (.s (.s (.s .z))))))))))))))))))))) (.c (.s (.s (.s (.s (.s (.s (.s (.s (.s (.s (.s (.s (.s (.s (.s (.s (.s (.s (.s (.s (.s (.s .z)))))))))))))))))))))) (.c (.s (.s (.s (.s (.s (.s (.s (.s (.s (.s (.s (.s (.s (.s (.s (.s (.s (.s (.s (.s (.s (.s (.s .z))))))))))))))))))))))) .n)))))))))))))))))))) (.c .z (.c .z (.c .z (.c .z (.c .z (.c .z (.c .z (.c .z (.c .z (.c .z (.c .z (.c .z .nil))))))))))))
          · refine cSkip ?_
            exact xJoin s4.2.1 () (.c .z (.c (.s .z) (.c (.s (.s .z)) (.c (.s (.s (.s .z))) (.c (.s (.s (.s (.s .z)))) (.c (.s (.s (.s (.s (.s .z))))) (.c (.s (.s (.s (.s (.s (.s .z)))))) (.c (.s (.s (.s (.s (.s (.s (.s .z))))))) (.c (.s (.s (.s (.s (.s (.s (.s (.s .z)))))))) (.c (.s (.s (.s (.s (.s (.s (.s (.s (.s .z))))))))) (.c (.s (.s (.s (.s (.s (.s (.s (.s (.s (.s .z)))))))))) (.c (.s (.s (.s (.s (.s (.s (.s (.s (.s (.s (.s .z))))))))))) (.c (.s (.s (.s (.s (.s (.s (.s (.s (.s (.s (.s (.s (.s .z))))))))))))) (.c (.s (.s (.s (.s (.s (.s (.s (.s (.s (.s (.s (.s (.s (.s .z)))))))))))))) (.c (.s (.s (.s (.s (.s (.s (.s (.s (.s (.s (.s (.s (.s (.s (.s .z))))))))))))))) (.c (.s (.s (.s (.s (.s (.s (.s (.s (.s (.s (.s (.s (.s (.s (.s (.s .z)))))))))))))))) (.c (.s (.s (.s (.s (.s (.s (.s (.s (.s (.s (.s (.s (.s (.s (.s (.s (.s .z))))))))))))))))) (.c (.s (.s (.s (.s (.s (.s (.s (.s (.s (.s (.s (.s (.s (.s (.s (.s (.s (.s .z)))))))))))))))))) (.c (.s (.s (.s (.s (.s (.s (.s (.s (.s (.s (.s (.s (.s (.s (.s (.s (.s (.s (.s .z))))))))))))))))))) (.c (.s (.s (.s (.s (.s (.s (.s (.s (.s (.s (.s (.s (.s (.s (.s (.s (.s (.s (.s (.s .z)))))))))))))))))))) .n)))))))))))))))))))) (.c .z (.c .z (.c .z (.c .z (.c .z (.c .z (.c .z (.c .z (.c .z (.c .z (.c .z (.c .z .nil))))))))))))
        · refine xCode ?_
          refine cRegionM [13, 15] [(0, .early), (1, .early), (2, .early), (3, .early), (4, .early), (5, .early), (6, .early), (7, .early), (8, .early), (9, .quiet), (10, .quiet), (11, .quiet), (12, .early), (13, .only), (14, .quiet), (15, .only)] mixed (by kernel_rfl) (.c .z (.c .z (.c .z (.c .z (.c .z (.c .z (.c .z (.c (.s .z) (.c (.s .z) (.c (.s .z) (.c (.s .z) (.c .z .nil)))))))))))) (.c (.c (.c (.c (.c (.c (.c (.c (.c (.c (.c .n))))))))))) ?_
          refine mRd rfl rfl (fun _ _ _ => dFld fld_37_1 (by decide) (.t (.s (.s (.s (.s (.s (.s (.s (.s (.s (.s (.s (.s (.s (.s (.s (.s .z))))))))))))))))) rfl) rfl rfl ?_
          refine mRd rfl rfl (fun _ _ _ => dLoad (.s (.s (.s (.s (.s (.s (.s (.s (.s (.s (.s .z))))))))))) agg_4 (.t .z) rfl) rfl rfl ?_
          refine mRd rfl rfl (fun _ _ _ => dMove (.t .z)) rfl rfl ?_
          refine mCase (fun h25 => ?_) (fun h25 => ?_)
          · refine mPass rfl rfl rfl .z (nbF h25) rfl ?_
            refine mPass rfl rfl rfl .z (nbF h25) rfl ?_
            refine mRd rfl rfl (fun _ _ _ => dPickT (.t .z) h25 (.c rfl)) rfl rfl ?_
            refine mRd rfl rfl (fun _ _ _ => dFld fld_37_2 (by decide) (.t (.s (.s (.s (.s (.s (.s (.s (.s (.s (.s (.s (.s (.s (.s (.s (.s (.s (.s (.s (.s .z))))))))))))))))))))) rfl) rfl rfl ?_
            refine mRd rfl rfl (fun _ _ _ => dLoad (.s (.s (.s (.s (.s (.s (.s (.s (.s (.s (.s .z))))))))))) agg_4 (.t .z) rfl) rfl rfl ?_
            refine mRd rfl rfl (fun _ _ _ => dMove (.t .z)) rfl rfl ?_
            refine mCase (fun h26 => ?_) (fun h26 => ?_)
            · refine mPass rfl rfl rfl .z (nbF h26) rfl ?_
              refine mPass rfl rfl rfl .z (nbF h26) rfl ?_
              refine mRd rfl rfl (fun _ _ _ => dPickT (.t .z) h26 (.c rfl)) rfl rfl ?_
              refine mRd rfl rfl (fun _ _ _ => dFld fld_37_1 (by decide) (.t (.s (.s (.s (.s (.s (.s (.s (.s (.s (.s (.s (.s (.s (.s (.s (.s (.s (.s (.s (.s (.s (.s (.s (.s .z))))))))))))))))))))))))) rfl) rfl rfl ?_
              refine mChU rfl rfl (uStore (.s (.s (.s (.s (.s (.s (.s (.s (.s (.s (.s .z))))))))))) siz_4 rfl (.s .z) (.t .z) (.t (.s (.s (.s (.s (.s .z))))))) (.c .z (.c .z (.c .z (.c .z (.c .z (.c .z (.c .z (.c .z (.c .z (.c .z (.c .z (.c .z .nil)))))))))))) (.c (.c (.c (.c (.c (.c (.c (.c (.c (.c (.c .n))))))))))) ?_
              refine mRd rfl rfl (fun _ _ _ => dFld fld_37_2 (by decide) (.t (.s (.s (.s (.s (.s (.s (.s (.s (.s (.s (.s (.s (.s (.s (.s (.s (.s (.s (.s (.s (.s (.s (.s (.s (.s .z)))))))))))))))))))))))))) rfl) rfl rfl ?_
              refine mChU rfl rfl (uStore (.s (.s (.s (.s (.s (.s (.s (.s (.s (.s (.s .z))))))))))) siz_4 rfl (.s (.s .z)) (.t .z) (.t (.s (.s .z)))) (.c .z (.c .z (.c .z (.c .z (.c .z (.c .z (.c .z (.c .z (.c .z (.c .z (.c .z (.c .z .nil)))))))))))) (.c (.c (.c (.c (.c (.c (.c (.c (.c (.c (.c .n))))))))))) ?_
              refine mNil ?_
              refine xBlock ?_
              refine xCode ?_
              refine cRegion ?_
              refine lRd (dAddI (.t (.s (.s (.s (.s (.s (.s (.s (.s (.s (.s (.s (.s (.s (.s (.s (.s (.s (.s (.s (.s (.s (.s (.s .z)))))))))))))))))))))))) (.c rfl)) rfl rfl ?_
              refine lRdK (dMove (.t .z)) (.k (.k (.k (.k (.k (.k (.k (.k (.k (.k (.k (.k (.k (.k (.k (.k (.k (.k (.k (.k (.k (.k (.k (.k (.d (Keep.refl _)))))))))))))))))))))))))) rfl rfl ?_
              refine lNil ?_
              exact xRound h8 (w64 (s4.1 + 1), s23, true, true, o17.1.f_sizes_0.f_Rows, o17.1.f_sizes_0.f_Cols, o17.1.f_sizes_1.f_Rows, o17.1.f_sizes_1.f_Cols, o17.1.f_which, o17.1.f_p.f_size.f_Rows, o17.1.f_p.f_size.f_Cols, o17.1.f_p.f_cells, o17.1.f_p.f_cursor) (x18.1, x18.2) (.c .z (.c (.s (.s (.s (.s (.s (.s (.s (.s (.s (.s (.s (.s (.s (.s (.s (.s (.s (.s (.s (.s (.s (.s (.s (.s (.s .z))))))))))))))))))))))))) (.c (.s (.s (.s (.s (.s (.s (.s (.s (.s (.s (.s (.s (.s (.s (.s (.s (.s (.s (.s (.s (.s (.s (.s (.s (.s (.s .z)))))))))))))))))))))))))) (.c (.s (.s (.s (.s (.s (.s (.s (.s (.s (.s (.s (.s (.s (.s (.s (.s (.s (.s (.s (.s (.s (.s (.s (.s (.s (.s (.s .z))))))))))))))))))))))))))) (.c (.s (.s (.s (.s (.s (.s (.s (.s (.s (.s (.s (.s (.s (.s (.s (.s (.s (.s (.s (.s (.s (.s (.s (.s (.s (.s (.s (.s .z)))))))))))))))))))))))))))) (.c (.s (.s (.s (.s (.s (.s (.s (.s (.s (.s (.s (.s (.s (.s (.s (.s (.s (.s (.s (.s (.s (.s (.s (.s (.s (.s (.s (.s (.s .z))))))))))))))))))))))))))))) (.c (.s (.s (.s (.s (.s (.s (.s (.s (.s (.s (.s (.s (.s (.s (.s (.s (.s (.s (.s (.s (.s (.s (.s (.s (.s (.s (.s (.s (.s (.s .z)))))))))))))))))))))))))))))) .n))))))) (.c (.s (.s (.s (.s (.s (.s (.s (.s (.s (.s (.s .z))))))))))) (.c (.s (.s (.s (.s (.s (.s (.s .z))))))) (.c (.s (.s (.s (.s (.s (.s (.s .z))))))) (.c (.s .z) (.c (.s .z) (.c (.s .z) (.c (.s (.s (.s (.s .z)))) (.c (.s (.s (.s (.s .z)))) .nil))))))))
            · refine mRdG rfl rfl rfl .z (Bool.eq_false_iff.mpr h26) (fun _ _ _ => dFld fld_37_2 (by decide) (.t (.s (.s (.s (.s (.s (.s (.s (.s (.s (.s (.s (.s (.s .z)))))))))))))) rfl) rfl rfl ?_
              refine mRdG rfl rfl rfl (.s .z) (Bool.eq_false_iff.mpr h26) (fun _ _ _ => dLoad .z agg_4 (.t .z) rfl) rfl rfl ?_
              refine mRd rfl rfl (fun _ _ _ => dPickF (.t (.s (.s .z))) (Bool.eq_false_iff.mpr h26) (.t .z)) rfl rfl ?_
              refine mRd rfl rfl (fun _ _ _ => dFld fld_37_1 (by decide) (.t (.s (.s (.s (.s (.s (.s (.s (.s (.s (.s (.s (.s (.s (.s (.s (.s (.s (.s (.s (.s (.s (.s (.s (.s (.s (.s .z))))))))))))))))))))))))))) rfl) rfl rfl ?_
              refine mChU rfl rfl (uStore (.s (.s (.s (.s (.s (.s (.s (.s (.s (.s (.s .z))))))))))) siz_4 rfl (.s .z) (.t .z) (.t (.s (.s (.s (.s (.s (.s (.s .z))))))))) (.c .z (.c .z (.c .z (.c .z (.c .z (.c .z (.c .z (.c .z (.c .z (.c .z (.c .z (.c .z .nil)))))))))))) (.c (.c (.c (.c (.c (.c (.c (.c (.c (.c (.c .n))))))))))) ?_
              refine mRd rfl rfl (fun _ _ _ => dFld fld_37_2 (by decide) (.t (.s (.s (.s (.s (.s (.s (.s (.s (.s (.s (.s (.s (.s (.s (.s (.s (.s (.s (.s (.s (.s (.s (.s (.s (.s (.s (.s .z)))))))))))))))))))))))))))) rfl) rfl rfl ?_
              refine mChU rfl rfl (uStore (.s (.s (.s (.s (.s (.s (.s (.s (.s (.s (.s .z))))))))))) siz_4 rfl (.s (.s .z)) (.t .z) (.t (.s (.s .z)))) (.c .z (.c .z (.c .z (.c .z (.c .z (.c .z (.c .z (.c .z (.c .z (.c .z (.c .z (.c .z .nil)))))))))))) (.c (.c (.c (.c (.c (.c (.c (.c (.c (.c (.c .n))))))))))) ?_
              refine mNil ?_
              refine xBlock ?_
              refine xCode ?_
              refine cRegion ?_
              refine lRd (dAddI (.t (.s (.s (.s (.s (.s (.s (.s (.s (.s (.s (.s (.s (.s (.s (.s (.s (.s (.s (.s (.s (.s (.s (.s (.s (.s .z)))))))))))))))))))))))))) (.c rfl)) rfl rfl ?_
              refine lRdK (dMove (.t .z)) (.k (.k (.k (.k (.k (.k (.k (.k (.k (.k (.k (.k (.k (.k (.k (.k (.k (.k (.k (.k (.k (.k (.k (.k (.k (.k (.d (Keep.refl _)))))))))))))))))))))))))))) rfl rfl ?_
              refine lNil ?_
              exact xRound h8 (w64 (s4.1 + 1), s23, true, o17.2.f_Alarm, o17.1.f_sizes_0.f_Rows, o17.1.f_sizes_0.f_Cols, o17.1.f_sizes_1.f_Rows, o17.1.f_sizes_1.f_Cols, o17.1.f_which, o17.1.f_p.f_size.f_Rows, o17.1.f_p.f_size.f_Cols, o17.1.f_p.f_cells, o17.1.f_p.f_cursor) (x18.1, x18.2) (.c .z (.c (.s (.s (.s (.s (.s (.s (.s (.s (.s (.s (.s (.s (.s (.s (.s (.s (.s (.s (.s (.s (.s (.s (.s (.s (.s (.s (.s .z))))))))))))))))))))))))))) (.c (.s (.s (.s (.s (.s (.s (.s (.s (.s (.s (.s (.s (.s (.s (.s (.s (.s (.s (.s (.s (.s (.s (.s (.s (.s (.s (.s (.s .z)))))))))))))))))))))))))))) (.c (.s (.s (.s (.s (.s (.s (.s (.s (.s (.s (.s (.s (.s (.s (.s (.s (.s (.s (.s (.s (.s (.s (.s (.s (.s (.s (.s (.s (.s .z))))))))))))))))))))))))))))) (.c (.s (.s (.s (.s (.s (.s (.s (.s (.s (.s (.s (.s (.s (.s (.s (.s (.s (.s (.s (.s (.s (.s (.s (.s (.s (.s (.s (.s (.s (.s .z)))))))))))))))))))))))))))))) (.c (.s (.s (.s (.s (.s (.s (.s (.s (.s (.s (.s (.s (.s (.s (.s (.s (.s (.s (.s (.s (.s (.s (.s (.s (.s (.s (.s (.s (.s (.s (.s .z))))))))))))))))))))))))))))))) (.c (.s (.s (.s (.s (.s (.s (.s (.s (.s (.s (.s (.s (.s (.s (.s (.s (.s (.s (.s (.s (.s (.s (.s (.s (.s (.s (.s (.s (.s (.s (.s (.s .z)))))))))))))))))))))))))))))))) .n))))))) (.c (.s (.s (.s (.s (.s (.s (.s (.s (.s (.s (.s .z))))))))))) (.c (.s (.s (.s (.s (.s (.s (.s .z))))))) (.c (.s (.s (.s (.s (.s (.s (.s .z))))))) (.c (.s .z) (.c (.s .z) (.c (.s .z) (.c (.s (.s (.s (.s .z)))) (.c (.s (.s (.s (.s .z)))) .nil))))))))
          · refine mRdG rfl rfl rfl .z (Bool.eq_false_iff.mpr h25) (fun _ _ _ => dFld fld_37_1 (by decide) (.t (.s (.s (.s (.s (.s (.s (.s (.s (.s .z)))))))))) rfl) rfl rfl ?_
            refine mRdG rfl rfl rfl (.s .z) (Bool.eq_false_iff.mpr h25) (fun _ _ _ => dLoad .z agg_4 (.t .z) rfl) rfl rfl ?_
            refine mRd rfl rfl (fun _ _ _ => dPickF (.t (.s (.s .z))) (Bool.eq_false_iff.mpr h25) (.t .z)) rfl rfl ?_
            refine mRd rfl rfl (fun _ _ _ => dFld fld_37_2 (by decide) (.t (.s (.s (.s (.s (.s (.s (.s (.s (.s (.s (.s (.s (.s (.s (.s (.s (.s (.s (.s (.s (.s (.s .z))))))))))))))))))))))) rfl) rfl rfl ?_
            refine mRd rfl rfl (fun _ _ _ => dLoad (.s (.s (.s (.s (.s (.s (.s (.s (.s (.s (.s .z))))))))))) agg_4 (.t .z) rfl) rfl rfl ?_
            refine mRd rfl rfl (fun _ _ _ => dMove (.t .z)) rfl rfl ?_
            refine mCase (fun h27 => ?_) (fun h27 => ?_)
            · refine mPass rfl rfl rfl .z (nbF h27) rfl ?_
              refine mPass rfl rfl rfl .z (nbF h27) rfl ?_
              refine mRd rfl rfl (fun _ _ _ => dPickT (.t .z) h27 (.c rfl)) rfl rfl ?_
              refine mRd rfl rfl (fun _ _ _ => dFld fld_37_1 (by decide) (.t (.s (.s (.s (.s (.s (.s (.s (.s (.s (.s (.s (.s (.s (.s (.s (.s (.s (.s (.s (.s (.s (.s (.s (.s (.s (.s .z))))))))))))))))))))))))))) rfl) rfl rfl ?_
              refine mChU rfl rfl (uStore (.s (.s (.s (.s (.s (.s (.s (.s (.s (.s (.s .z))))))))))) siz_4 rfl (.s .z) (.t .z) (.t (.s (.s (.s (.s (.s .z))))))) (.c .z (.c .z (.c .z (.c .z (.c .z (.c .z (.c .z (.c .z (.c .z (.c .z (.c .z (.c .z .nil)))))))))))) (.c (.c (.c (.c (.c (.c (.c (.c (.c (.c (.c .n))))))))))) ?_
              refine mRd rfl rfl (fun _ _ _ => dFld fld_37_2 (by decide) (.t (.s (.s (.s (.s (.s (.s (.s (.s (.s (.s (.s (.s (.s (.s (.s (.s (.s (.s (.s (.s (.s (.s (.s (.s (.s (.s (.s .z)))))))))))))))))))))))))))) rfl) rfl rfl ?_
              refine mChU rfl rfl (uStore (.s (.s (.s (.s (.s (.s (.s (.s (.s (.s (.s .z))))))))))) siz_4 rfl (.s (.s .z)) (.t .z) (.t (.s (.s .z)))) (.c .z (.c .z (.c .z (.c .z (.c .z (.c .z (.c .z (.c .z (.c .z (.c .z (.c .z (.c .z .nil)))))))))))) (.c (.c (.c (.c (.c (.c (.c (.c (.c (.c (.c .n))))))))))) ?_
              refine mNil ?_
              refine xBlock ?_
              refine xCode ?_
              refine cRegion ?_
              refine lRd (dAddI (.t (.s (.s (.s (.s (.s (.s (.s (.s (.s (.s (.s (.s (.s (.s (.s (.s (.s (.s (.s (.s (.s (.s (.s (.s (.s .z)))))))))))))))))))))))))) (.c rfl)) rfl rfl ?_
              refine lRdK (dMove (.t .z)) (.k (.k (.k (.k (.k (.k (.k (.k (.k (.k (.k (.k (.k (.k (.k (.k (.k (.k (.k (.k (.k (.k (.k (.k (.k (.k (.d (Keep.refl _)))))))))))))))))))))))))))) rfl rfl ?_
              refine lNil ?_
              exact xRound h8 (w64 (s4.1 + 1), s23, o17.2.f_Restore, true, o17.1.f_sizes_0.f_Rows, o17.1.f_sizes_0.f_Cols, o17.1.f_sizes_1.f_Rows, o17.1.f_sizes_1.f_Cols, o17.1.f_which, o17.1.f_p.f_size.f_Rows, o17.1.f_p.f_size.f_Cols, o17.1.f_p.f_cells, o17.1.f_p.f_cursor) (x18.1, x18.2) (.c .z (.c (.s (.s (.s (.s (.s (.s (.s (.s (.s (.s (.s (.s (.s (.s (.s (.s (.s (.s (.s (.s (.s (.s (.s (.s (.s (.s (.s .z))))))))))))))))))))))))))) (.c (.s (.s (.s (.s (.s (.s (.s (.s (.s (.s (.s (.s (.s (.s (.s (.s (.s (.s (.s (.s (.s (.s (.s (.s (.s (.s (.s (.s .z)))))))))))))))))))))))))))) (.c (.s (.s (.s (.s (.s (.s (.s (.s (.s (.s (.s (.s (.s (.s (.s (.s (.s (.s (.s (.s (.s (.s (.s (.s (.s (.s (.s (.s (.s .z))))))))))))))))))))))))))))) (.c (.s (.s (.s (.s (.s (.s (.s (.s (.s (.s (.s (.s (.s (.s (.s (.s (.s (.s (.s (.s (.s (.s (.s (.s (.s (.s (.s (.s (.s (.s .z)))))))))))))))))))))))))))))) (.c (.s (.s (.s (.s (.s (.s (.s (.s (.s (.s (.s (.s (.s (.s (.s (.s (.s (.s (.s (.s (.s (.s (.s (.s (.s (.s (.s (.s (.s (.s (.s .z))))))))))))))))))))))))))))))) (.c (.s (.s (.s (.s (.s (.s (.s (.s (.s (.s (.s (.s (.s (.s (.s (.s (.s (.s (.s (.s (.s (.s (.s (.s (.s (.s (.s (.s (.s (.s (.s (.s .z)))))))))))))))))))))))))))))))) .n))))))) (.c (.s (.s (.s (.s (.s (.s (.s (.s (.s (.s (.s .z))))))))))) (.c (.s (.s (.s (.s (.s (.s (.s .z))))))) (.c (.s (.s (.s (.s (.s (.s (.s .z))))))) (.c (.s .z) (.c (.s .z) (.c (.s .z) (.c (.s (.s (.s (.s .z)))) (.c (.s (.s (.s (.s .z)))) .nil))))))))
            · refine mRdG rfl rfl rfl .z (Bool.eq_false_iff.mpr h27) (fun _ _ _ => dFld fld_37_2 (by decide) (.t (.s (.s (.s (.s (.s (.s (.s (.s (.s (.s (.s (.s (.s (.s (.s .z)))))))))))))))) rfl) rfl rfl ?_
              refine mRdG rfl rfl rfl (.s .z) (Bool.eq_false_iff.mpr h27) (fun _ _ _ => dLoad .z agg_4 (.t .z) rfl) rfl rfl ?_
              refine mRd rfl rfl (fun _ _ _ => dPickF (.t (.s (.s .z))) (Bool.eq_false_iff.mpr h27) (.t .z)) rfl rfl ?_
              refine mRd rfl rfl (fun _ _ _ => dFld fld_37_1 (by decide) (.t (.s (.s (.s (.s (.s (.s (.s (.s (.s (.s (.s (.s (.s (.s (.s (.s (.s (.s (.s (.s (.s (.s (.s (.s (.s (.s (.s (.s .z))))))))))))))))))))))))))))) rfl) rfl rfl ?_
              refine mChU rfl rfl (uStore (.s (.s (.s (.s (.s (.s (.s (.s (.s (.s (.s .z))))))))))) siz_4 rfl (.s .z) (.t .z) (.t (.s (.s (.s (.s (.s (.s (.s .z))))))))) (.c .z (.c .z (.c .z (.c .z (.c .z (.c .z (.c .z (.c .z (.c .z (.c .z (.c .z (.c .z .nil)))))))))))) (.c (.c (.c (.c (.c (.c (.c (.c (.c (.c (.c .n))))))))))) ?_
              refine mRd rfl rfl (fun _ _ _ => dFld fld_37_2 (by decide) (.t (.s (.s (.s (.s (.s (.s (.s (.s (.s (.s (.s (.s (.s (.s (.s (.s (.s (.s (.s (.s (.s (.s (.s (.s (.s (.s (.s (.s (.s .z)))))))))))))))))))))))))))))) rfl) rfl rfl ?_
              refine mChU rfl rfl (uStore (.s (.s (.s (.s (.s (.s (.s (.s (.s (.s (.s .z))))))))))) siz_4 rfl (.s (.s .z)) (.t .z) (.t (.s (.s .z)))) (.c .z (.c .z (.c .z (.c .z (.c .z (.c .z (.c .z (.c .z (.c .z (.c .z (.c .z (.c .z .nil)))))))))))) (.c (.c (.c (.c (.c (.c (.c (.c (.c (.c (.c .n))))))))))) ?_
              refine mNil ?_
              refine xBlock ?_
              refine xCode ?_
              refine cRegion ?_
              refine lRd (dAddI (.t (.s (.s (.s (.s (.s (.s (.s (.s (.s (.s (.s (.s (.s (.s (.s (.s (.s (.s (.s (.s (.s (.s (.s (.s (.s (.s (.s .z)))))))))))))))))))))))))))) (.c rfl)) rfl rfl ?_
              refine lRdK (dMove (.t .z)) (.k (.k (.k (.k (.k (.k (.k (.k (.k (.k (.k (.k (.k (.k (.k (.k (.k (.k (.k (.k (.k (.k (.k (.k (.k (.k (.k (.k (.d (Keep.refl _)))))))))))))))))))))))))))))) rfl rfl ?_
              refine lNil ?_
              exact xRound h8 (w64 (s4.1 + 1), s23, o17.2.f_Restore, o17.2.f_Alarm, o17.1.f_sizes_0.f_Rows, o17.1.f_sizes_0.f_Cols, o17.1.f_sizes_1.f_Rows, o17.1.f_sizes_1.f_Cols, o17.1.f_which, o17.1.f_p.f_size.f_Rows, o17.1.f_p.f_size.f_Cols, o17.1.f_p.f_cells, o17.1.f_p.f_cursor) (x18.1, x18.2) (.c .z (.c (.s (.s (.s (.s (.s (.s (.s (.s (.s (.s (.s (.s (.s (.s (.s (.s (.s (.s (.s (.s (.s (.s (.s (.s (.s (.s (.s (.s (.s .z))))))))))))))))))))))))))))) (.c (.s (.s (.s (.s (.s (.s (.s (.s (.s (.s (.s (.s (.s (.s (.s (.s (.s (.s (.s (.s (.s (.s (.s (.s (.s (.s (.s (.s (.s (.s .z)))))))))))))))))))))))))))))) (.c (.s (.s (.s (.s (.s (.s (.s (.s (.s (.s (.s (.s (.s (.s (.s (.s (.s (.s (.s (.s (.s (.s (.s (.s (.s (.s (.s (.s (.s (.s (.s .z))))))))))))))))))))))))))))))) (.c (.s (.s (.s (.s (.s (.s (.s (.s (.s (.s (.s (.s (.s (.s (.s (.s (.s (.s (.s (.s (.s (.s (.s (.s (.s (.s (.s (.s (.s (.s (.s (.s .z)))))))))))))))))))))))))))))))) (.c (.s (.s (.s (.s (.s (.s (.s (.s (.s (.s (.s (.s (.s (.s (.s (.s (.s (.s (.s (.s (.s (.s (.s (.s (.s (.s (.s (.s (.s (.s (.s (.s (.s .z))))))))))))))))))))))))))))))))) (.c (.s (.s (.s (.s (.s (.s (.s (.s (.s (.s (.s (.s (.s (.s (.s (.s (.s (.s (.s (.s (.s (.s (.s (.s (.s (.s (.s (.s (.s (.s (.s (.s (.s (.s .z)))))))))))))))))))))))))))))))))) .n))))))) (.c (.s (.s (.s (.s (.s (.s (.s (.s (.s (.s (.s .z))))))))))) (.c (.s (.s (.s (.s (.s (.s (.s .z))))))) (.c (.s (.s (.s (.s (.s (.s (.s .z))))))) (.c (.s .z) (.c (.s .z) (.c (.s .z) (.c (.s (.s (.s (.s .z)))) (.c (.s (.s (.s (.s .z)))) .nil))))))))
    · refine cExit ?_
      refine xOver ?_
      refine xOverF ?_
      exact xBreakR (s4.2.1, s4.2.2.1, s4.2.2.2.1, s4.2.2.2.2.1, s4.2.2.2.2.2.1, s4.2.2.2.2.2.2.1, s4.2.2.2.2.2.2.2.1, s4.2.2.2.2.2.2.2.2.1, s4.2.2.2.2.2.2.2.2.2.1, s4.2.2.2.2.2.2.2.2.2.2.1, s4.2.2.2.2.2.2.2.2.2.2.2.1, s4.2.2.2.2.2.2.2.2.2.2.2.2) (x5.1, x5.2) (.c (.s (.s (.s (.s .z)))) (.c (.s (.s (.s (.s (.s .z))))) (.c (.s (.s (.s (.s (.s (.s .z)))))) .n))) (.c .z (.c .z (.c .z (.c .z (.c .z (.c .z (.c .z (.c .z .nil))))))))
  · refine xCode ?_
    refine cSeq ?_
    refine cSeq ?_
    refine cRegion ?_
    refine lRd (dFld fld_58_3 (by decide) (.t (.s (.s .z))) rfl) rfl rfl ?_
    refine lRd (dLoad (.s (.s .z)) agg_35 (.t .z) rfl) rfl rfl ?_
    refine lRd (dNe (.t .z) (.c rfl)) rfl rfl ?_
    refine lKeep (.k (.d (.d (.k (.k (.k .n)))))) ?_
    refine lNil ?_
    refine xCode ?_
    refine cCond (.t .z) (fun h30 => ?_) (fun h30 => ?_)
    · refine cSeq ?_
      refine cRegion ?_
      refine lRd (dFld fld_58_3 (by decide) (.t (.s (.s (.s .z)))) rfl) rfl rfl ?_
      refine lRd (dLoad (.s (.s .z)) agg_35 (.t .z) rfl) rfl rfl ?_
      refine lRd (dBuild (cs := [vB 0, .bool false, .bool false, .int .i64 a1.f_Err]) zer_37 rfl plc_37 (.c (.t .z) .n) rfl) rfl rfl ?_
      refine lChU (uStoreA (us := [vB 0, .bool false, .bool false, .int .i64 a1.f_Err]) (cs' := [vB 0, .bool false, .bool false, .int .i64 a1.f_Err]) (.s .z) siz_37 rfl (by intro u hu; simp only [List.mem_cons, List.not_mem_nil, or_false] at hu; rcases hu with rfl | rfl | rfl | rfl <;> first | rfl | assumption) rfl (by simp) (.t (.s (.s (.s (.s (.s .z)))))) (.t .z)) ?_
      refine lKeep (.d (.d (.d (.d (.k (.k .n)))))) ?_
      refine lNil ?_
      refine xCode ?_
      refine cRet ?_
      refine rLeave hD ?_
      exact lvRet (rs := [.cell 4 37]) rfl (.a (.s .z) (.s .z) agg_37 siz_37 .n) (x29.1, x29.2) rfl (.c (.s (.s (.s .z))) (.c (.s (.s (.s .z))) (.c (.s (.s (.s .z))) .nil)))
    · refine cSkip ?_
      refine xCode ?_
      refine cSeq ?_
      refine cRegion ?_
      refine lRd (dLoadA (us := [vB s28.1, .bool s28.2.1, .bool s28.2.2.1, .int .i64 0]) .z agg_37 siz_37 rfl (.t (.s .z)) rfl) rfl rfl ?_
      refine lChU (uStoreA (us := [vB s28.1, .bool s28.2.1, .bool s28.2.2.1, .int .i64 0]) (cs' := [vB s28.1, .bool s28.2.1, .bool s28.2.2.1, .int .i64 0]) (.s .z) siz_37 rfl (by intro u hu; simp only [List.mem_cons, List.not_mem_nil, or_false] at hu; rcases hu with rfl | rfl | rfl | rfl <;> first | rfl | assumption) rfl (by simp) (.t (.s (.s (.s .z)))) (.t .z)) ?_
      refine lKeep (.d (.d (.d (.k .n)))) ?_
      refine lNil ?_
      refine xCode ?_
      refine cRet ?_
      refine rLeave hD ?_
      exact lvRet (rs := [.cell 4 37]) rfl (.a .z (.s .z) agg_37 siz_37 .n) (x29.1, x29.2) rfl (.c (.s (.s (.s .z))) (.c (.s (.s (.s .z))) (.c (.s (.s (.s .z))) .nil)))

end Go.Proofs.Ytecipnjloenndaa.G
