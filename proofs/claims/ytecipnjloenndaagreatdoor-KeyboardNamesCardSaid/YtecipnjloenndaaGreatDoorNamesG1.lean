/-
The walk of law22_KeyboardNames, by program: each function's model, and its contract. Part 1.
-/
import Derived.Test.YtecipnjloenndaaGreatDoorNamesG0
import Derived.Test.YtecipnjloenndaaGreatDoorProg
set_option linter.unusedVariables false
set_option maxRecDepth 20000
set_option maxHeartbeats 2000000
namespace Go.Proofs.YtecipnjloenndaaGreatDoor.G
open Go Go.RowKit Go.Proofs.YtecipnjloenndaaGreatDoor.SX
-- greenscreen/caret.seek
def caret_seek_l1 (K : Nat) (a0 : plane_Plane) (a1 : Int) (a2 : Int) (o1 : (Int)) : Nat → (Int) → Option (Sum (Unit) (Int))
  | 0, _ => none
  | n + 1, s4 => (if s4 < o1 then (caret_by_m a0 a1 (w64 (s4 * a2))).bind fun o10 => (caret_open_m K a0 o10).bind fun o13 => (if o13 = true then (caret_by_m a0 o10 1).bind fun o17 => some (Sum.inr o17) else (caret_seek_l1 K a0 a1 a2 o1 n) (w64 (s4 + 1))) else some (Sum.inl ()))
def caret_seek_m (K : Nat) (a0 : plane_Plane) (a1 : Int) (a2 : Int) : Option (Int) := (plane_Plane_Len_m a0).bind fun o1 => (caret_seek_l1 K a0 a1 a2 o1 K 0).bind (onS fun (s20 : Unit) => some 0)
theorem caret_seek_c (K : Nat) (a0 : plane_Plane) (a1 : Int) (a2 : Int) (b0_0 : Nat) (v0_1 : Value) : Con Tryz.prog 142 #[.pointer (some ⟨b0_0, 0, none⟩), .int .i64 a1, .int .i64 a2] [.blk b0_0 [.int .i64 a0.f_size.f_Rows, .int .i64 a0.f_size.f_Cols, v0_1, .int .i64 a0.f_cursor] 126, .own v0_1 80 k_api_Cell a0.f_cells] (caret_seek_m K a0 a1 a2) (fun (o : Int) (x : Unit) => .int .i64 o) (fun (o : Int) (x : Unit) => [.blk b0_0 [.int .i64 a0.f_size.f_Rows, .int .i64 a0.f_size.f_Cols, v0_1, .int .i64 a0.f_cursor] 126, .own v0_1 80 k_api_Cell a0.f_cells]) := by
  unfold caret_seek_m
  refine con (args := [.pointer (some ⟨b0_0, 0, none⟩), .int .i64 a1, .int .i64 a2]) Tryz.func142 rfl 27 rfl (.c (.c (.c .n))) rfl fun c hD => ?_
  refine cSeq ?_
  refine cRegion ?_
  refine lRd (dAssign (.c rfl)) rfl rfl ?_
  refine lNil ?_
  refine xCode ?_
  refine cSeq ?_
  refine cSeq ?_
  refine cRegion ?_
  refine lRd (dMove (.t (.s .z))) rfl rfl ?_
  refine lCall fok_66 (.c (.t .z) .n) (plane_Plane_Len_c a0 b0_0 v0_1) (.c .z (.c .z .n)) rfl rfl fun o1 x2 h3 => ?_
  refine lRd (dMove (.c rfl)) rfl rfl ?_
  refine lKeep (.k (.k (.d (.k (.k (.k (.k .n))))))) ?_
  refine lNil ?_
  refine xCode ?_
  refine cLoopR (S := Int) (X := Unit) (S' := Unit) (X' := Unit) (caret_seek_l1 K a0 a1 a2 o1) (fun (s : Int) (x : Unit) => [(11, .int .i64 s), (10, .int .i64 o1), (6, .int .i64 0), (0, .pointer (some ⟨b0_0, 0, none⟩)), (1, .int .i64 a1), (2, .int .i64 a2)]) (fun (s : Int) (x : Unit) => [.blk b0_0 [.int .i64 a0.f_size.f_Rows, .int .i64 a0.f_size.f_Cols, v0_1, .int .i64 a0.f_cursor] 126, .own v0_1 80 k_api_Cell a0.f_cells]) (fun (s : Unit) (x : Unit) => [(6, .int .i64 0)]) (fun (s : Unit) (x : Unit) => [.blk b0_0 [.int .i64 a0.f_size.f_Rows, .int .i64 a0.f_size.f_Cols, v0_1, .int .i64 a0.f_cursor] 126, .own v0_1 80 k_api_Cell a0.f_cells]) K 0 () (.c .z (.c (.s .z) (.c (.s (.s .z)) (.c (.s (.s (.s .z))) (.c (.s (.s (.s (.s .z)))) (.c (.s (.s (.s (.s (.s .z))))) .n)))))) (.c .z (.c .z .nil)) (fun _ => rfl) (fun n6 I7 h8 s4 x5 => ?_) (fun s20 x21 => ?_)
  · rw [caret_seek_l1]
    refine cSeq ?_
    refine cRegion ?_
    refine lRd (dLt (.t .z) (.t (.s .z))) rfl rfl ?_
    refine lNil ?_
    refine xCode ?_
    refine cSeq ?_
    refine cCond (.t .z) (fun h9 => ?_) (fun h9 => ?_)
    · refine cSkip ?_
      refine xCode ?_
      refine cSeq ?_
      refine cBlock ?_
      refine cSeq ?_
      refine cRegion ?_
      refine lRd (dMove (.t (.s .z))) rfl rfl ?_
      refine lRd (dAssign (.t .z)) rfl rfl ?_
      refine lNil ?_
      refine xCode ?_
      refine cSeq ?_
      refine cRegion ?_
      refine lRd (dMove (.t (.s (.s (.s (.s (.s (.s .z)))))))) rfl rfl ?_
      refine lRd (dMove (.t (.s (.s (.s (.s (.s (.s (.s (.s .z)))))))))) rfl rfl ?_
      refine lRd (dMove (.t (.s (.s .z)))) rfl rfl ?_
      refine lRd (dMove (.t (.s (.s (.s (.s (.s (.s (.s (.s (.s (.s (.s .z))))))))))))) rfl rfl ?_
      refine lRd (dMulI (.t (.s .z)) (.t .z)) rfl rfl ?_
      refine lCall fok_145 (.c (.t (.s (.s (.s (.s .z))))) (.c (.t (.s (.s (.s .z)))) (.c (.t .z) .n))) (caret_by_c a0 a1 (w64 (s4 * a2)) b0_0 v0_1) (.c .z (.c .z .n)) rfl rfl fun o10 x11 h12 => ?_
      refine lRd (dAssign (.t .z)) rfl rfl ?_
      refine lNil ?_
      refine xCode ?_
      refine cSeq ?_
      refine cRegion ?_
      refine lRd (dMove (.t (.s (.s (.s (.s (.s (.s (.s (.s (.s (.s (.s (.s (.s .z))))))))))))))) rfl rfl ?_
      refine lRd (dMove (.t (.s .z))) rfl rfl ?_
      refine lCall fok_144 (.c (.t (.s .z)) (.c (.t .z) .n)) (caret_open_c K a0 o10 b0_0 v0_1) (.c .z (.c .z .n)) rfl rfl fun o13 x14 h15 => ?_
      refine lNil ?_
      refine xCode ?_
      refine cCondB (.t .z) (fun h16 => ?_) (fun h16 => ?_)
      · refine cSeq ?_
        refine cRegion ?_
        refine lRd (dMove (.t (.s (.s (.s (.s (.s (.s (.s (.s (.s (.s (.s (.s (.s (.s (.s (.s .z)))))))))))))))))) rfl rfl ?_
        refine lRd (dMove (.t (.s (.s (.s (.s .z)))))) rfl rfl ?_
        refine lCall fok_145 (.c (.t (.s .z)) (.c (.t .z) (.c (.c rfl) .n))) (caret_by_c a0 o10 1 b0_0 v0_1) (.c .z (.c .z .n)) rfl rfl fun o17 x18 h19 => ?_
        refine lRdK (dAssign (.t .z)) (.k (.k (.k (.k (.k (.k (.k (.k (.k (.k (.k (.k (.k (.k (.k (.k (.k (.k (.d (Keep.refl _)))))))))))))))))))) rfl rfl ?_
        refine lNil ?_
        refine xCode ?_
        refine cRet ?_
        refine rInner ?_
        exact rDone (rs := [.tmp 6]) rfl (.t .z .n) hD (.inl rfl) () rfl (.c .z (.c .z .nil))
      · refine cSkip ?_
        refine xBlock ?_
        refine xCode ?_
        refine cRegion ?_
        refine lRd (dAddI (.t (.s (.s (.s (.s (.s (.s (.s (.s (.s (.s (.s (.s (.s .z)))))))))))))) (.c rfl)) rfl rfl ?_
        refine lRdK (dMove (.t .z)) (.k (.k (.k (.k (.k (.k (.k (.k (.k (.k (.k (.k (.k (.k (.d (Keep.refl _)))))))))))))))) rfl rfl ?_
        refine lNil ?_
        exact xRound h8 (w64 (s4 + 1)) () (.c .z (.c (.s (.s (.s (.s (.s (.s (.s (.s (.s (.s (.s (.s (.s (.s (.s .z))))))))))))))) (.c (.s (.s (.s (.s (.s (.s (.s (.s (.s (.s (.s (.s (.s (.s (.s (.s .z)))))))))))))))) (.c (.s (.s (.s (.s (.s (.s (.s (.s (.s (.s (.s (.s (.s (.s (.s (.s (.s .z))))))))))))))))) (.c (.s (.s (.s (.s (.s (.s (.s (.s (.s (.s (.s (.s (.s (.s (.s (.s (.s (.s .z)))))))))))))))))) (.c (.s (.s (.s (.s (.s (.s (.s (.s (.s (.s (.s (.s (.s (.s (.s (.s (.s (.s (.s .z))))))))))))))))))) .n)))))) (.c .z (.c .z .nil))
    · refine cExit ?_
      refine xOver ?_
      refine xOverF ?_
      exact xBreakR () () (.c (.s (.s (.s .z))) .n) (.c .z (.c .z .nil))
  · refine xCode ?_
    refine cSeq ?_
    refine cRegion ?_
    refine lRdK (dAssign (.c rfl)) (.d (Keep.refl _)) rfl rfl ?_
    refine lNil ?_
    refine xCode ?_
    refine cRet ?_
    exact rDone (rs := [.tmp 6]) rfl (.t .z .n) hD (.inl rfl) () rfl (.c .z (.c .z .nil))

-- greenscreen/caret.Tab
def caret_Tab_m (K : Nat) (a0 : plane_Plane) : Option (plane_Plane × Int) := (plane_Plane_Cursor_m a0).bind fun o1 => (caret_seek_m K a0 o1 1).bind fun o4 => (caret_to_m a0 o4).bind fun o7 => some (o7.1, o7.2)
theorem caret_Tab_c (K : Nat) (a0 : plane_Plane) (b0_0 : Nat) (v0_1 : Value) : Con Tryz.prog 95 #[.pointer (some ⟨b0_0, 0, none⟩)] [.blk b0_0 [.int .i64 a0.f_size.f_Rows, .int .i64 a0.f_size.f_Cols, v0_1, .int .i64 a0.f_cursor] 126, .own v0_1 80 k_api_Cell a0.f_cells] (caret_Tab_m K a0) (fun (o : plane_Plane × Int) (x : Unit) => .int .i64 o.2) (fun (o : plane_Plane × Int) (x : Unit) => [.blk b0_0 [.int .i64 o.1.f_size.f_Rows, .int .i64 o.1.f_size.f_Cols, v0_1, .int .i64 o.1.f_cursor] 126, .own v0_1 80 k_api_Cell o.1.f_cells]) := by
  unfold caret_Tab_m
  refine con (args := [.pointer (some ⟨b0_0, 0, none⟩)]) Tryz.func95 rfl 9 rfl (.c .n) rfl fun c hD => ?_
  refine cSeq ?_
  refine cRegion ?_
  refine lRd (dAssign (.c rfl)) rfl rfl ?_
  refine lNil ?_
  refine xCode ?_
  refine cSeq ?_
  refine cRegion ?_
  refine lRd (dMove (.t (.s .z))) rfl rfl ?_
  refine lRd (dMove (.t (.s (.s .z)))) rfl rfl ?_
  refine lRd (dMove (.t (.s (.s (.s .z))))) rfl rfl ?_
  refine lCall fok_68 (.c (.t .z) .n) (plane_Plane_Cursor_c a0 b0_0 v0_1) (.c .z (.c .z .n)) rfl rfl fun o1 x2 h3 => ?_
  refine lCall fok_142 (.c (.t (.s (.s .z))) (.c (.t .z) (.c (.c rfl) .n))) (caret_seek_c K a0 o1 1 b0_0 v0_1) (.c .z (.c .z .n)) rfl rfl fun o4 x5 h6 => ?_
  refine lCall fok_141 (.c (.t (.s (.s (.s (.s .z))))) (.c (.t .z) .n)) (caret_to_c a0 o4 b0_0 v0_1) (.c .z (.c .z .n)) rfl rfl fun o7 x8 h9 => ?_
  refine lRdK (dAssign (.t .z)) (.k (.k (.k (.k (.k (.k (.d (Keep.refl _)))))))) rfl rfl ?_
  refine lKeep (.k .n) ?_
  refine lNil ?_
  refine xCode ?_
  refine cRet ?_
  exact rDone (rs := [.tmp 2]) rfl (.t .z .n) hD (.inl rfl) () rfl (.c .z (.c .z .nil))

-- greenscreen/caret.Back
def caret_Back_m (K : Nat) (a0 : plane_Plane) : Option (plane_Plane × Int) := (plane_Plane_Cursor_m a0).bind fun o1 => (field_Of_m K a0 o1).bind fun o4 => ((if o4.2 = true then (caret_open_m K a0 o4.1.f_Start).bind fun o9 => (if o9 = true then (if o1 ≠ o4.1.f_Start then (caret_by_m a0 o4.1.f_Start 1).bind fun o14 => some (decide (o1 ≠ o14)) else some false) else some false) else some false)).bind fun (s17 : Bool) => (if s17 = true then (caret_by_m a0 o4.1.f_Start 1).bind fun o20 => (caret_to_m a0 o20).bind fun o23 => some (o23.1, o23.2) else (caret_by_m a0 o1 (-2)).bind fun o26 => (caret_seek_m K a0 o26 (-1)).bind fun o29 => (caret_to_m a0 o29).bind fun o32 => some (o32.1, o32.2))
theorem caret_Back_c (K : Nat) (a0 : plane_Plane) (b0_0 : Nat) (v0_1 : Value) : Con Tryz.prog 96 #[.pointer (some ⟨b0_0, 0, none⟩)] [.blk b0_0 [.int .i64 a0.f_size.f_Rows, .int .i64 a0.f_size.f_Cols, v0_1, .int .i64 a0.f_cursor] 126, .own v0_1 80 k_api_Cell a0.f_cells] (caret_Back_m K a0) (fun (o : plane_Plane × Int) (x : Unit) => .int .i64 o.2) (fun (o : plane_Plane × Int) (x : Unit) => [.blk b0_0 [.int .i64 o.1.f_size.f_Rows, .int .i64 o.1.f_size.f_Cols, v0_1, .int .i64 o.1.f_cursor] 126, .own v0_1 80 k_api_Cell o.1.f_cells]) := by
  unfold caret_Back_m
  refine con (args := [.pointer (some ⟨b0_0, 0, none⟩)]) Tryz.func96 rfl 48 rfl (.c .n) rfl fun c hD => ?_
  refine cSeq ?_
  refine cRegion ?_
  refine lRd (dAssign (.c rfl)) rfl rfl ?_
  refine lNil ?_
  refine xCode ?_
  refine cSeq ?_
  refine cRegion ?_
  refine lRd (dMove (.t (.s .z))) rfl rfl ?_
  refine lCall fok_68 (.c (.t .z) .n) (plane_Plane_Cursor_c a0 b0_0 v0_1) (.c .z (.c .z .n)) rfl rfl fun o1 x2 h3 => ?_
  refine lRd (dAssign (.t .z)) rfl rfl ?_
  refine lKeep (.k (.d (.d (.k (.k .n))))) ?_
  refine lNil ?_
  refine xCode ?_
  refine cSeq ?_
  refine cSeq ?_
  refine cRegion ?_
  refine lRd (dMove (.t (.s (.s .z)))) rfl rfl ?_
  refine lRd (dMove (.t (.s .z))) rfl rfl ?_
  refine lCall fok_143 (.c (.t (.s .z)) (.c (.t .z) .n)) (field_Of_c K a0 o1 b0_0 v0_1) (.c .z (.c .z .n)) rfl rfl fun o4 x5 h6 => ?_
  refine lRd (dMove (.t .z)) rfl rfl ?_
  refine lRd (dExtract (.t .z) rfl) rfl rfl ?_
  refine lRd (dExtract (.t (.s .z)) rfl) rfl rfl ?_
  refine lCh (cAlloc (cs := [.int .i64 0, .int .i64 0, vB 0]) zer_193 rfl) rfl rfl fun b7 => ?_
  refine lChU (uStoreA (us := [.int .i64 o4.1.f_Start, .int .i64 o4.1.f_Len, vB o4.1.f_Attr]) (cs' := [.int .i64 o4.1.f_Start, .int .i64 o4.1.f_Len, vB o4.1.f_Attr]) .z siz_193 rfl (by intro u hu; simp only [List.mem_cons, List.not_mem_nil, or_false] at hu; rcases hu with rfl | rfl | rfl <;> first | rfl | assumption) rfl (by simp) (.t .z) (.t (.s (.s .z)))) ?_
  refine lRd (dAssign (.t (.s .z))) rfl rfl ?_
  refine lKeep (.k (.k (.d (.d (.d (.d (.d (.d (.k (.k (.k .n))))))))))) ?_
  refine lNil ?_
  refine xCode ?_
  refine cSeq ?_
  refine cJoin (S := Bool) (X := Unit) (fun (s : Bool) (x : Unit) => [(34, .bool s), (4, .pointer (some ⟨b7, 0, none⟩)), (3, .int .i64 o1), (2, .int .i64 0), (0, .pointer (some ⟨b0_0, 0, none⟩))]) (fun (s : Bool) (x : Unit) => [.blk b0_0 [.int .i64 a0.f_size.f_Rows, .int .i64 a0.f_size.f_Cols, v0_1, .int .i64 a0.f_cursor] 126, .own v0_1 80 k_api_Cell a0.f_cells, .blk b7 [.int .i64 o4.1.f_Start, .int .i64 o4.1.f_Len, vB o4.1.f_Attr] 193]) ?_ (fun s17 x18 => ?_)
  · refine cRegion ?_
    refine lRd (dMove (.t .z)) rfl rfl ?_
    refine lRd (dMove (.t .z)) rfl rfl ?_
    refine lCase (fun h8 => ?_) (fun h8 => ?_)
    · refine lRdG rfl .z h8 (dMove (.t (.s (.s (.s (.s (.s (.s .z)))))))) rfl rfl ?_
      refine lRdG rfl (.s .z) h8 (dFld fld_193_0 (by decide) (.t (.s (.s (.s (.s .z))))) rfl) rfl rfl ?_
      refine lRdG rfl (.s (.s .z)) h8 (dLoad .z agg_3 (.t .z) rfl) rfl rfl ?_
      refine lCallG rfl (.s (.s (.s .z))) h8 fok_144 (.c (.t (.s (.s .z))) (.c (.t .z) .n)) (caret_open_c K a0 o4.1.f_Start b0_0 v0_1) (.c (.s .z) (.c (.s .z) .n)) rfl rfl fun o9 x10 h11 => ?_
      refine lRd (dPickT (.t (.s (.s (.s (.s .z))))) h8 (.t .z)) rfl rfl ?_
      refine lRd (dMove (.t .z)) rfl rfl ?_
      refine lCase (fun h12 => ?_) (fun h12 => ?_)
      · refine lRdG rfl .z h12 (dMove (.t (.s (.s (.s (.s (.s (.s (.s (.s (.s (.s .z)))))))))))) rfl rfl ?_
        refine lRdG rfl (.s .z) h12 (dFld fld_193_0 (by decide) (.t (.s (.s (.s (.s (.s (.s (.s (.s (.s (.s .z))))))))))) rfl) rfl rfl ?_
        refine lRdG rfl (.s (.s .z)) h12 (dLoad (.s (.s .z)) agg_3 (.t .z) rfl) rfl rfl ?_
        refine lRdG rfl (.s (.s (.s .z))) h12 (dNe (.t (.s (.s .z))) (.t .z)) rfl rfl ?_
        refine lRd (dPickT (.t (.s (.s (.s (.s .z))))) h12 (.t .z)) rfl rfl ?_
        refine lRd (dMove (.t .z)) rfl rfl ?_
        refine lCase (fun h13 => ?_) (fun h13 => ?_)
        · refine lRdG rfl .z (decide_eq_true h13) (dMove (.t (.s (.s (.s (.s (.s (.s (.s (.s (.s (.s (.s (.s (.s (.s (.s (.s .z)))))))))))))))))) rfl rfl ?_
          refine lRdG rfl (.s .z) (decide_eq_true h13) (dMove (.t (.s (.s (.s (.s (.s (.s (.s (.s (.s (.s (.s (.s (.s (.s (.s (.s (.s (.s (.s .z))))))))))))))))))))) rfl rfl ?_
          refine lRdG rfl (.s (.s .z)) (decide_eq_true h13) (dFld fld_193_0 (by decide) (.t (.s (.s (.s (.s (.s (.s (.s (.s (.s (.s (.s (.s (.s (.s (.s (.s (.s .z)))))))))))))))))) rfl) rfl rfl ?_
          refine lRdG rfl (.s (.s (.s .z))) (decide_eq_true h13) (dLoad (.s (.s .z)) agg_3 (.t .z) rfl) rfl rfl ?_
          refine lCallG rfl (.s (.s (.s (.s .z)))) (decide_eq_true h13) fok_145 (.c (.t (.s (.s .z))) (.c (.t .z) (.c (.c rfl) .n))) (caret_by_c a0 o4.1.f_Start 1 b0_0 v0_1) (.c .z (.c .z .n)) rfl rfl fun o14 x15 h16 => ?_
          refine lRdG rfl (.s (.s (.s (.s (.s .z))))) (decide_eq_true h13) (dNe (.t (.s (.s (.s (.s .z))))) (.t .z)) rfl rfl ?_
          refine lRd (dPickT (.t (.s (.s (.s (.s (.s (.s .z))))))) (decide_eq_true h13) (.t .z)) rfl rfl ?_
          refine lKeep (.k (.d (.d (.d (.d (.d (.d (.d (.d (.d (.d (.d (.d (.d (.d (.d (.d (.d (.d (.d (.d (.d (.k (.k (.k (.k .n)))))))))))))))))))))))))) ?_
          refine lNil ?_
          exact xJoin (decide (o1 ≠ o14)) () (.c .z (.c (.s .z) (.c (.s (.s .z)) (.c (.s (.s (.s .z))) (.c (.s (.s (.s (.s .z)))) .n))))) (.c .z (.c .z (.c .z .nil)))
        · refine lPass rfl .z (nbT (decide_eq_false h13)) rfl ?_
          refine lPass rfl .z (nbT (decide_eq_false h13)) rfl ?_
          refine lPass rfl .z (nbT (decide_eq_false h13)) rfl ?_
          refine lPass rfl .z (nbT (decide_eq_false h13)) rfl ?_
          refine lPass rfl .z (nbT (decide_eq_false h13)) rfl ?_
          refine lPass rfl .z (nbT (decide_eq_false h13)) rfl ?_
          refine lRd (dPickF (.t .z) (decide_eq_false h13) (.c rfl)) rfl rfl ?_
          refine lKeep (.k (.d (.d (.d (.d (.d (.d (.d (.d (.d (.d (.d (.d (.d (.d (.d (.k (.k (.k (.k .n)))))))))))))))))))) ?_
          refine lNil ?_
          exact xJoin false () (.c .z (.c (.s .z) (.c (.s (.s .z)) (.c (.s (.s (.s .z))) (.c (.s (.s (.s (.s .z)))) .n))))) (.c .z (.c .z (.c .z .nil)))
      · refine lPass rfl .z (nbT (Bool.eq_false_iff.mpr h12)) rfl ?_
        refine lPass rfl .z (nbT (Bool.eq_false_iff.mpr h12)) rfl ?_
        refine lPass rfl .z (nbT (Bool.eq_false_iff.mpr h12)) rfl ?_
        refine lPass rfl .z (nbT (Bool.eq_false_iff.mpr h12)) rfl ?_
        refine lRd (dPickF (.t .z) (Bool.eq_false_iff.mpr h12) (.c rfl)) rfl rfl ?_
        refine lRd (dMove (.t .z)) rfl rfl ?_
        refine lPass rfl .z (nbT rfl) rfl ?_
        refine lPass rfl .z (nbT rfl) rfl ?_
        refine lPass rfl .z (nbT rfl) rfl ?_
        refine lPass rfl .z (nbT rfl) rfl ?_
        refine lPass rfl .z (nbT rfl) rfl ?_
        refine lPass rfl .z (nbT rfl) rfl ?_
        refine lRd (dPickF (.t .z) rfl (.c rfl)) rfl rfl ?_
        refine lKeep (.k (.d (.d (.d (.d (.d (.d (.d (.d (.d (.d (.d (.k (.k (.k (.k .n)))))))))))))))) ?_
        refine lNil ?_
        exact xJoin false () (.c .z (.c (.s .z) (.c (.s (.s .z)) (.c (.s (.s (.s .z))) (.c (.s (.s (.s (.s .z)))) .n))))) (.c .z (.c .z (.c .z .nil)))
    · refine lPass rfl .z (nbT (Bool.eq_false_iff.mpr h8)) rfl ?_
      refine lPass rfl .z (nbT (Bool.eq_false_iff.mpr h8)) rfl ?_
      refine lPass rfl .z (nbT (Bool.eq_false_iff.mpr h8)) rfl ?_
      refine lPass rfl .z (nbT (Bool.eq_false_iff.mpr h8)) rfl ?_
      refine lRd (dPickF (.t .z) (Bool.eq_false_iff.mpr h8) (.c rfl)) rfl rfl ?_
      refine lRd (dMove (.t .z)) rfl rfl ?_
      refine lPass rfl .z (nbT rfl) rfl ?_
      refine lPass rfl .z (nbT rfl) rfl ?_
      refine lPass rfl .z (nbT rfl) rfl ?_
      refine lPass rfl .z (nbT rfl) rfl ?_
      refine lRd (dPickF (.t .z) rfl (.c rfl)) rfl rfl ?_
      refine lRd (dMove (.t .z)) rfl rfl ?_
      refine lPass rfl .z (nbT rfl) rfl ?_
      refine lPass rfl .z (nbT rfl) rfl ?_
      refine lPass rfl .z (nbT rfl) rfl ?_
      refine lPass rfl .z (nbT rfl) rfl ?_
      refine lPass rfl .z (nbT rfl) rfl ?_
      refine lPass rfl .z (nbT rfl) rfl ?_
      refine lRd (dPickF (.t .z) rfl (.c rfl)) rfl rfl ?_
      refine lKeep (.k (.d (.d (.d (.d (.d (.d (.d (.k (.k (.k (.k .n)))))))))))) ?_
      refine lNil ?_
      exact xJoin false () (.c .z (.c (.s .z) (.c (.s (.s .z)) (.c (.s (.s (.s .z))) (.c (.s (.s (.s (.s .z)))) .n))))) (.c (.s .z) (.c (.s .z) (.c .z .nil)))
  · refine xCode ?_
    refine cCondB (.t .z) (fun h19 => ?_) (fun h19 => ?_)
    · refine cSeq ?_
      refine cRegion ?_
      refine lRd (dMove (.t (.s (.s (.s (.s .z)))))) rfl rfl ?_
      refine lRd (dMove (.t (.s (.s (.s (.s (.s .z))))))) rfl rfl ?_
      refine lRd (dFld fld_193_0 (by decide) (.t (.s (.s (.s .z)))) rfl) rfl rfl ?_
      refine lRd (dLoad (.s (.s .z)) agg_3 (.t .z) rfl) rfl rfl ?_
      refine lCall fok_145 (.c (.t (.s (.s .z))) (.c (.t .z) (.c (.c rfl) .n))) (caret_by_c a0 o4.1.f_Start 1 b0_0 v0_1) (.c .z (.c .z .n)) rfl rfl fun o20 x21 h22 => ?_
      refine lCall fok_141 (.c (.t (.s (.s (.s (.s .z))))) (.c (.t .z) .n)) (caret_to_c a0 o20 b0_0 v0_1) (.c .z (.c .z .n)) rfl rfl fun o23 x24 h25 => ?_
      refine lRdK (dAssign (.t .z)) (.k (.k (.k (.k (.k (.k (.k (.k (.k (.d (Keep.refl _))))))))))) rfl rfl ?_
      refine lKeep (.k (.d (.d (.d (.d (.d (.d (.d (.d (.k (.k .n))))))))))) ?_
      refine lNil ?_
      refine xCode ?_
      refine cRet ?_
      exact rDone (rs := [.tmp 2]) rfl (.t .z .n) hD (.inl rfl) () rfl (.c .z (.c .z .nil))
    · refine cSkip ?_
      refine xCode ?_
      refine cSeq ?_
      refine cRegion ?_
      refine lRd (dMove (.t (.s (.s (.s (.s .z)))))) rfl rfl ?_
      refine lRd (dMove (.t (.s (.s (.s (.s (.s .z))))))) rfl rfl ?_
      refine lRd (dMove (.t (.s (.s (.s (.s (.s (.s .z)))))))) rfl rfl ?_
      refine lRd (dMove (.t (.s (.s (.s (.s (.s .z))))))) rfl rfl ?_
      refine lCall fok_145 (.c (.t (.s .z)) (.c (.t .z) (.c (.c rfl) .n))) (caret_by_c a0 o1 (-2) b0_0 v0_1) (.c .z (.c .z .n)) rfl rfl fun o26 x27 h28 => ?_
      refine lCall fok_142 (.c (.t (.s (.s (.s .z)))) (.c (.t .z) (.c (.c rfl) .n))) (caret_seek_c K a0 o26 (-1) b0_0 v0_1) (.c .z (.c .z .n)) rfl rfl fun o29 x30 h31 => ?_
      refine lCall fok_141 (.c (.t (.s (.s (.s (.s (.s .z)))))) (.c (.t .z) .n)) (caret_to_c a0 o29 b0_0 v0_1) (.c .z (.c .z .n)) rfl rfl fun o32 x33 h34 => ?_
      refine lRdK (dAssign (.t .z)) (.k (.k (.k (.k (.k (.k (.k (.k (.k (.k (.d (Keep.refl _)))))))))))) rfl rfl ?_
      refine lKeep (.k .n) ?_
      refine lNil ?_
      refine xCode ?_
      refine cRet ?_
      exact rDone (rs := [.tmp 2]) rfl (.t .z .n) hD (.inl rfl) () rfl (.c .z (.c .z .nil))

-- greenscreen/field.Open
def field_Open_m (K : Nat) (a0 : plane_Plane) (a1 : Int) : Option (Bool) := (field_Of_m K a0 a1).bind fun o1 => (if (!o1.2) = true then ((if a1 ≥ 0 then (plane_Plane_Len_m a0).bind fun o7 => some (decide (a1 < o7)) else some false)).bind fun (s10 : Bool) => some s10 else (if o1.1.f_Start ≠ a1 then (attr_Protected_m o1.1.f_Attr).bind fun o13 => some (!o13) else some false))
theorem field_Open_c (K : Nat) (a0 : plane_Plane) (a1 : Int) (b0_0 : Nat) (v0_1 : Value) : Con Tryz.prog 131 #[.pointer (some ⟨b0_0, 0, none⟩), .int .i64 a1] [.blk b0_0 [.int .i64 a0.f_size.f_Rows, .int .i64 a0.f_size.f_Cols, v0_1, .int .i64 a0.f_cursor] 126, .own v0_1 80 k_api_Cell a0.f_cells] (field_Open_m K a0 a1) (fun (o : Bool) (x : Unit) => .bool o) (fun (o : Bool) (x : Unit) => [.blk b0_0 [.int .i64 a0.f_size.f_Rows, .int .i64 a0.f_size.f_Cols, v0_1, .int .i64 a0.f_cursor] 126, .own v0_1 80 k_api_Cell a0.f_cells]) := by
  unfold field_Open_m
  refine con (args := [.pointer (some ⟨b0_0, 0, none⟩), .int .i64 a1]) Tryz.func131 rfl 33 rfl (.c (.c .n)) rfl fun c hD => ?_
  refine cSeq ?_
  refine cRegion ?_
  refine lRd (dAssign (.c rfl)) rfl rfl ?_
  refine lNil ?_
  refine xCode ?_
  refine cSeq ?_
  refine cRegion ?_
  refine lRd (dMove (.t (.s .z))) rfl rfl ?_
  refine lRd (dMove (.t (.s (.s (.s .z))))) rfl rfl ?_
  refine lCall fok_143 (.c (.t (.s .z)) (.c (.t .z) .n)) (field_Of_c K a0 a1 b0_0 v0_1) (.c .z (.c .z .n)) rfl rfl fun o1 x2 h3 => ?_
  refine lRd (dMove (.t .z)) rfl rfl ?_
  refine lRd (dExtract (.t .z) rfl) rfl rfl ?_
  refine lRd (dExtract (.t (.s .z)) rfl) rfl rfl ?_
  refine lCh (cAlloc (cs := [.int .i64 0, .int .i64 0, vB 0]) zer_193 rfl) rfl rfl fun b4 => ?_
  refine lChU (uStoreA (us := [.int .i64 o1.1.f_Start, .int .i64 o1.1.f_Len, vB o1.1.f_Attr]) (cs' := [.int .i64 o1.1.f_Start, .int .i64 o1.1.f_Len, vB o1.1.f_Attr]) .z siz_193 rfl (by intro u hu; simp only [List.mem_cons, List.not_mem_nil, or_false] at hu; rcases hu with rfl | rfl | rfl <;> first | rfl | assumption) rfl (by simp) (.t .z) (.t (.s (.s .z)))) ?_
  refine lRd (dAssign (.t (.s .z))) rfl rfl ?_
  refine lKeep (.k (.k (.d (.d (.d (.d (.d (.d (.k (.k (.k .n))))))))))) ?_
  refine lNil ?_
  refine xCode ?_
  refine cSeq ?_
  refine cSeq ?_
  refine cRegion ?_
  refine lRd (dMove (.t .z)) rfl rfl ?_
  refine lRd (dNot (.t .z)) rfl rfl ?_
  refine lKeep (.k (.d (.d (.k (.k (.k (.k .n))))))) ?_
  refine lNil ?_
  refine xCode ?_
  refine cCondB (.t .z) (fun h5 => ?_) (fun h5 => ?_)
  · refine cSeq ?_
    refine cJoin (S := Bool) (X := Unit) (fun (s : Bool) (x : Unit) => [(4, .bool s), (5, .pointer (some ⟨b4, 0, none⟩)), (1, .int .i64 a1)]) (fun (s : Bool) (x : Unit) => [.blk b0_0 [.int .i64 a0.f_size.f_Rows, .int .i64 a0.f_size.f_Cols, v0_1, .int .i64 a0.f_cursor] 126, .own v0_1 80 k_api_Cell a0.f_cells, .blk b4 [.int .i64 o1.1.f_Start, .int .i64 o1.1.f_Len, vB o1.1.f_Attr] 193]) ?_ (fun s10 x11 => ?_)
    · refine cRegion ?_
      refine lRd (dMove (.t (.s (.s (.s (.s .z)))))) rfl rfl ?_
      refine lRd (dGe (.t .z) (.c rfl)) rfl rfl ?_
      refine lRd (dMove (.t .z)) rfl rfl ?_
      refine lCase (fun h6 => ?_) (fun h6 => ?_)
      · refine lRdG rfl .z (decide_eq_true h6) (dMove (.t (.s (.s (.s (.s (.s (.s (.s .z))))))))) rfl rfl ?_
        refine lRdG rfl (.s .z) (decide_eq_true h6) (dMove (.t (.s (.s (.s (.s (.s (.s (.s .z))))))))) rfl rfl ?_
        refine lCallG rfl (.s (.s .z)) (decide_eq_true h6) fok_66 (.c (.t .z) .n) (plane_Plane_Len_c a0 b0_0 v0_1) (.c (.s .z) (.c (.s .z) .n)) rfl rfl fun o7 x8 h9 => ?_
        refine lRdG rfl (.s (.s (.s .z))) (decide_eq_true h6) (dLt (.t (.s (.s .z))) (.t .z)) rfl rfl ?_
        refine lRd (dPickT (.t (.s (.s (.s (.s .z))))) (decide_eq_true h6) (.t .z)) rfl rfl ?_
        refine lRdK (dAssign (.t .z)) (.k (.k (.k (.k (.k (.k (.k (.k (.k (.k (.d (Keep.refl _)))))))))))) rfl rfl ?_
        refine lKeep (.k (.d (.d (.d (.d (.d (.d (.d (.d (.d (.k (.d (.k .n))))))))))))) ?_
        refine lNil ?_
        exact xJoin (decide (a1 < o7)) () (.c .z (.c (.s .z) (.c (.s (.s .z)) .n))) (.c .z (.c .z (.c .z .nil)))
      · refine lPass rfl .z (nbT (decide_eq_false h6)) rfl ?_
        refine lPass rfl .z (nbT (decide_eq_false h6)) rfl ?_
        refine lPass rfl .z (nbT (decide_eq_false h6)) rfl ?_
        refine lPass rfl .z (nbT (decide_eq_false h6)) rfl ?_
        refine lRd (dPickF (.t .z) (decide_eq_false h6) (.c rfl)) rfl rfl ?_
        refine lRdK (dAssign (.t .z)) (.k (.k (.k (.k (.k (.k (.d (Keep.refl _)))))))) rfl rfl ?_
        refine lKeep (.k (.d (.d (.d (.d (.d (.k (.d (.k .n))))))))) ?_
        refine lNil ?_
        exact xJoin false () (.c .z (.c (.s .z) (.c (.s (.s .z)) .n))) (.c (.s .z) (.c (.s .z) (.c .z .nil)))
    · refine xCode ?_
      refine cRet ?_
      exact rDone (rs := [.tmp 4]) rfl (.t .z .n) hD (.inl rfl) () rfl (.c .z (.c .z .nil))
  · refine cSkip ?_
    refine xCode ?_
    refine cSeq ?_
    refine cRegion ?_
    refine lRd (dFld fld_193_0 (by decide) (.t (.s .z)) rfl) rfl rfl ?_
    refine lRd (dLoad .z agg_3 (.t .z) rfl) rfl rfl ?_
    refine lRd (dMove (.t (.s (.s (.s (.s (.s (.s .z)))))))) rfl rfl ?_
    refine lRd (dNe (.t (.s .z)) (.t .z)) rfl rfl ?_
    refine lRd (dMove (.t .z)) rfl rfl ?_
    refine lCase (fun h12 => ?_) (fun h12 => ?_)
    · refine lRdG rfl .z (decide_eq_true h12) (dFld fld_193_2 (by decide) (.t (.s (.s (.s (.s (.s (.s .z))))))) rfl) rfl rfl ?_
      refine lRdG rfl (.s .z) (decide_eq_true h12) (dLoad .z agg_5 (.t .z) rfl) rfl rfl ?_
      refine lCallG rfl (.s (.s .z)) (decide_eq_true h12) fok_133 (.c (.t .z) .n) (attr_Protected_c o1.1.f_Attr) .n rfl rfl fun o13 x14 h15 => ?_
      refine lRdG rfl (.s (.s (.s .z))) (decide_eq_true h12) (dNot (.t .z)) rfl rfl ?_
      refine lRd (dPickT (.t (.s (.s (.s (.s .z))))) (decide_eq_true h12) (.t .z)) rfl rfl ?_
      refine lRdK (dAssign (.t .z)) (.k (.k (.k (.k (.k (.k (.k (.k (.k (.k (.k (.k (.d (Keep.refl _)))))))))))))) rfl rfl ?_
      refine lKeep (.k .n) ?_
      refine lNil ?_
      refine xCode ?_
      refine cRet ?_
      exact rDone (rs := [.tmp 4]) rfl (.t .z .n) hD (.inl rfl) () rfl (.c (.s .z) (.c (.s .z) .nil))
    · refine lPass rfl .z (nbT (decide_eq_false h12)) rfl ?_
      refine lPass rfl .z (nbT (decide_eq_false h12)) rfl ?_
      refine lPass rfl .z (nbT (decide_eq_false h12)) rfl ?_
      refine lPass rfl .z (nbT (decide_eq_false h12)) rfl ?_
      refine lRd (dPickF (.t .z) (decide_eq_false h12) (.c rfl)) rfl rfl ?_
      refine lRdK (dAssign (.t .z)) (.k (.k (.k (.k (.k (.k (.k (.k (.d (Keep.refl _)))))))))) rfl rfl ?_
      refine lKeep (.k .n) ?_
      refine lNil ?_
      refine xCode ?_
      refine cRet ?_
      exact rDone (rs := [.tmp 4]) rfl (.t .z .n) hD (.inl rfl) () rfl (.c (.s .z) (.c (.s .z) .nil))

-- greenscreen/addr.Split
def addr_Split_m (a0 : api_Size) (a1 : Int) : Option (Int × Int × Bool) := ((if a1 < 0 then some true else (addr_Cells_m a0).bind fun o3 => some (decide (a1 ≥ o3)))).bind fun (s6 : Bool) => (if s6 = true then some (0, 0, false) else (if a0.f_Cols ≠ 0 then (if a0.f_Cols ≠ 0 then some (w64 (Int.tdiv a1 a0.f_Cols), Int.tmod a1 a0.f_Cols, true) else none) else none))
theorem addr_Split_c (a0 : api_Size) (a1 : Int) : Con Tryz.prog 146 #[.agg #[.int .i64 a0.f_Rows, .int .i64 a0.f_Cols], .int .i64 a1] [] (addr_Split_m a0 a1) (fun (o : Int × Int × Bool) (x : Unit) => .tuple #[.int .i64 o.1, .int .i64 o.2.1, .bool o.2.2]) (fun (o : Int × Int × Bool) (x : Unit) => []) := by
  unfold addr_Split_m
  refine con (args := [.agg #[.int .i64 a0.f_Rows, .int .i64 a0.f_Cols], .int .i64 a1]) Tryz.func146 rfl 23 rfl (.c (.c .n)) rfl fun c hD => ?_
  refine cSeq ?_
  refine cRegion ?_
  refine lCh (cBox (cs := [.int .i64 a0.f_Rows, .int .i64 a0.f_Cols]) (.t .z) rfl) rfl rfl fun b1 => ?_
  refine lRd (dAssign (.c rfl)) rfl rfl ?_
  refine lRd (dAssign (.c rfl)) rfl rfl ?_
  refine lRd (dAssign (.c rfl)) rfl rfl ?_
  refine lKeep (.k (.k (.k (.k (.d (.k .n)))))) ?_
  refine lNil ?_
  refine xCode ?_
  refine cSeq ?_
  refine cSeq ?_
  refine cJoin (S := Bool) (X := Unit) (fun (s : Bool) (x : Unit) => [(14, .bool s), (6, .bool false), (5, .int .i64 0), (4, .int .i64 0), (2, .pointer (some ⟨b1, 0, none⟩)), (1, .int .i64 a1)]) (fun (s : Bool) (x : Unit) => [.blk b1 [.int .i64 a0.f_Rows, .int .i64 a0.f_Cols] 33]) ?_ (fun s6 x7 => ?_)
  · refine cRegion ?_
    refine lRd (dMove (.t (.s (.s (.s (.s .z)))))) rfl rfl ?_
    refine lRd (dLt (.t .z) (.c rfl)) rfl rfl ?_
    refine lRd (dMove (.t .z)) rfl rfl ?_
    refine lCase (fun h2 => ?_) (fun h2 => ?_)
    · refine lPass rfl .z (nbF (decide_eq_true h2)) rfl ?_
      refine lPass rfl .z (nbF (decide_eq_true h2)) rfl ?_
      refine lPass rfl .z (nbF (decide_eq_true h2)) rfl ?_
      refine lPass rfl .z (nbF (decide_eq_true h2)) rfl ?_
      refine lRd (dPickT (.t .z) (decide_eq_true h2) (.c rfl)) rfl rfl ?_
      refine lKeep (.k (.d (.d (.d (.k (.k (.k (.k (.k .n))))))))) ?_
      refine lNil ?_
      exact xJoin true () (.c .z (.c (.s .z) (.c (.s (.s .z)) (.c (.s (.s (.s .z))) (.c (.s (.s (.s (.s .z)))) (.c (.s (.s (.s (.s (.s .z))))) .n)))))) (.c .z .nil)
    · refine lRdG rfl .z (decide_eq_false h2) (dMove (.t (.s (.s (.s (.s (.s (.s (.s .z))))))))) rfl rfl ?_
      refine lRdG rfl (.s .z) (decide_eq_false h2) (dLoadA (us := [.int .i64 a0.f_Rows, .int .i64 a0.f_Cols]) .z agg_33 siz_33 rfl (.t (.s (.s (.s (.s (.s (.s (.s .z)))))))) rfl) rfl rfl ?_
      refine lCallG rfl (.s (.s .z)) (decide_eq_false h2) fok_73 (.c (.t .z) .n) (addr_Cells_c a0) .n rfl rfl fun o3 x4 h5 => ?_
      refine lRdG rfl (.s (.s (.s .z))) (decide_eq_false h2) (dGe (.t (.s (.s .z))) (.t .z)) rfl rfl ?_
      refine lRd (dPickF (.t (.s (.s (.s (.s .z))))) (decide_eq_false h2) (.t .z)) rfl rfl ?_
      refine lKeep (.k (.d (.d (.d (.d (.d (.d (.d (.k (.k (.k (.k (.k .n))))))))))))) ?_
      refine lNil ?_
      exact xJoin (decide (a1 ≥ o3)) () (.c .z (.c (.s .z) (.c (.s (.s .z)) (.c (.s (.s (.s .z))) (.c (.s (.s (.s (.s .z)))) (.c (.s (.s (.s (.s (.s .z))))) .n)))))) (.c .z .nil)
  · refine xCode ?_
    refine cCondB (.t .z) (fun h8 => ?_) (fun h8 => ?_)
    · refine cSeq ?_
      refine cRegion ?_
      refine lRdK (dAssign (.c rfl)) (.k (.k (.k (.d (Keep.refl _))))) rfl rfl ?_
      refine lRdK (dAssign (.c rfl)) (.k (.k (.k (.d (Keep.refl _))))) rfl rfl ?_
      refine lRdK (dAssign (.c rfl)) (.k (.k (.k (.d (Keep.refl _))))) rfl rfl ?_
      refine lKeep (.k (.k (.k (.d (.k (.k .n)))))) ?_
      refine lNil ?_
      refine xCode ?_
      refine cRet ?_
      exact rDone (rs := [.tmp 4, .tmp 5, .tmp 6]) rfl (.t (.s (.s .z)) (.t (.s .z) (.t .z .n))) hD (.inl rfl) () rfl .nil
    · refine cSkip ?_
      refine xCode ?_
      refine cSeq ?_
      refine cRegionM [] [(0, .early), (1, .early), (2, .early), (3, .early), (4, .early), (5, .early), (6, .early), (7, .early), (8, .early), (9, .early), (10, .early)] mixed (by kernel_rfl) (.c .z .nil) (.c .n) ?_
      refine mRd rfl rfl (fun _ _ _ => dMove (.t (.s (.s (.s (.s (.s .z))))))) rfl rfl ?_
      refine mRd rfl rfl (fun _ _ _ => dFld fld_33_1 (by decide) (.t (.s (.s (.s (.s (.s .z)))))) rfl) rfl rfl ?_
      refine mRd rfl rfl (fun _ _ _ => dLoad .z agg_3 (.t .z) rfl) rfl rfl ?_
      refine mGuard fun h9 => ?_
      refine mRd rfl rfl (fun _ _ _ => dQuoI (.t (.s (.s .z))) (.t .z) h9) rfl rfl ?_
      refine mRd rfl rfl (fun _ _ _ => dMove (.t (.s (.s (.s (.s (.s (.s (.s (.s (.s .z))))))))))) rfl rfl ?_
      refine mRd rfl rfl (fun _ _ _ => dFld fld_33_1 (by decide) (.t (.s (.s (.s (.s (.s (.s (.s (.s (.s .z)))))))))) rfl) rfl rfl ?_
      refine mRd rfl rfl (fun _ _ _ => dLoad .z agg_3 (.t .z) rfl) rfl rfl ?_
      refine mGuard fun h10 => ?_
      refine mRd rfl rfl (fun _ _ _ => dRem (.t (.s (.s .z))) (.t .z) h10) rfl rfl ?_
      refine mRdK rfl rfl (fun _ _ _ => dAssign (.t (.s (.s (.s (.s .z)))))) (.k (.k (.k (.k (.k (.k (.k (.k (.k (.k (.k (.d (Keep.refl _))))))))))))) rfl rfl ?_
      refine mRdK rfl rfl (fun _ _ _ => dAssign (.t (.s .z))) (.k (.k (.k (.k (.k (.k (.k (.k (.k (.k (.k (.d (Keep.refl _))))))))))))) rfl rfl ?_
      refine mRdK rfl rfl (fun _ _ _ => dAssign (.c rfl)) (.k (.k (.k (.k (.k (.k (.k (.k (.k (.k (.k (.d (Keep.refl _))))))))))))) rfl rfl ?_
      refine mKeep (.k (.k (.k .n))) ?_
      refine mNil ?_
      refine xCode ?_
      refine cRet ?_
      exact rDone (rs := [.tmp 4, .tmp 5, .tmp 6]) rfl (.t (.s (.s .z)) (.t (.s .z) (.t .z .n))) hD (.inl rfl) () rfl .nil

-- greenscreen/caret.Newline
def caret_Newline_l1 (K : Nat) (a0 : plane_Plane) (o13 : (Int)) (o16 : (Int)) : Nat → (Int) → Option (Sum (Unit) (plane_Plane × Int))
  | 0, _ => none
  | n + 1, s19 => (if s19 < o16 then (caret_by_m a0 o13 s19).bind fun o25 => (field_Open_m K a0 o25).bind fun o28 => (if o28 = true then (caret_to_m a0 o25).bind fun o32 => some (Sum.inr (o32.1, o32.2)) else (caret_Newline_l1 K a0 o13 o16 n) (w64 (s19 + 1))) else some (Sum.inl ()))
def caret_Newline_m (K : Nat) (a0 : plane_Plane) : Option (plane_Plane × Int) := (plane_Plane_Size_m a0).bind fun o1 => (plane_Plane_Cursor_m a0).bind fun o4 => (addr_Split_m o1 o4).bind fun o7 => (plane_Plane_Size_m a0).bind fun o10 => (caret_by_m a0 0 (w64 ((w64 (o7.1 + 1)) * o10.f_Cols))).bind fun o13 => (plane_Plane_Len_m a0).bind fun o16 => (caret_Newline_l1 K a0 o13 o16 K 0).bind (onS fun (s35 : Unit) => (caret_to_m a0 0).bind fun o37 => some (o37.1, o37.2))
theorem caret_Newline_c (K : Nat) (a0 : plane_Plane) (b0_0 : Nat) (v0_1 : Value) : Con Tryz.prog 97 #[.pointer (some ⟨b0_0, 0, none⟩)] [.blk b0_0 [.int .i64 a0.f_size.f_Rows, .int .i64 a0.f_size.f_Cols, v0_1, .int .i64 a0.f_cursor] 126, .own v0_1 80 k_api_Cell a0.f_cells] (caret_Newline_m K a0) (fun (o : plane_Plane × Int) (x : Unit) => .int .i64 o.2) (fun (o : plane_Plane × Int) (x : Unit) => [.blk b0_0 [.int .i64 o.1.f_size.f_Rows, .int .i64 o.1.f_size.f_Cols, v0_1, .int .i64 o.1.f_cursor] 126, .own v0_1 80 k_api_Cell o.1.f_cells]) := by
  unfold caret_Newline_m
  refine con (args := [.pointer (some ⟨b0_0, 0, none⟩)]) Tryz.func97 rfl 44 rfl (.c .n) rfl fun c hD => ?_
  refine cSeq ?_
  refine cRegion ?_
  refine lRd (dAssign (.c rfl)) rfl rfl ?_
  refine lNil ?_
  refine xCode ?_
  refine cSeq ?_
  refine cRegion ?_
  refine lRd (dMove (.t (.s .z))) rfl rfl ?_
  refine lCall fok_147 (.c (.t .z) .n) (plane_Plane_Size_c a0 b0_0 v0_1) (.c .z (.c .z .n)) rfl rfl fun o1 x2 h3 => ?_
  refine lRd (dMove (.t (.s (.s (.s .z))))) rfl rfl ?_
  refine lCall fok_68 (.c (.t .z) .n) (plane_Plane_Cursor_c a0 b0_0 v0_1) (.c .z (.c .z .n)) rfl rfl fun o4 x5 h6 => ?_
  refine lCall fok_146 (.c (.t (.s (.s .z))) (.c (.t .z) .n)) (addr_Split_c o1 o4) .n rfl rfl fun o7 x8 h9 => ?_
  refine lRd (dMove (.t .z)) rfl rfl ?_
  refine lRd (dExtract (.t .z) rfl) rfl rfl ?_
  refine lRd (dExtract (.t (.s .z)) rfl) rfl rfl ?_
  refine lRd (dExtract (.t (.s (.s .z))) rfl) rfl rfl ?_
  refine lRd (dAssign (.t (.s (.s .z)))) rfl rfl ?_
  refine lRdN (dAssign (.t (.s (.s .z)))) rfl ?_
  refine lRdN (dAssign (.t (.s .z))) rfl ?_
  refine lKeep (.k (.d (.d (.d (.d (.d (.d (.d (.d (.d (.k (.k .n)))))))))))) ?_
  refine lNil ?_
  refine xCode ?_
  refine cSeq ?_
  refine cRegion ?_
  refine lRd (dMove (.t (.s (.s .z)))) rfl rfl ?_
  refine lRd (dMove (.t (.s .z))) rfl rfl ?_
  refine lRd (dAddI (.t .z) (.c rfl)) rfl rfl ?_
  refine lRd (dMove (.t (.s (.s (.s (.s (.s .z))))))) rfl rfl ?_
  refine lCall fok_147 (.c (.t .z) .n) (plane_Plane_Size_c a0 b0_0 v0_1) (.c .z (.c .z .n)) rfl rfl fun o10 x11 h12 => ?_
  refine lRd (dField (u := .int .i64 o10.f_Cols) fld_33_1 (.t .z) rfl) rfl rfl ?_
  refine lRd (dMulI (.t (.s (.s (.s .z)))) (.t .z)) rfl rfl ?_
  refine lCall fok_145 (.c (.t (.s (.s (.s (.s (.s (.s .z))))))) (.c (.c rfl) (.c (.t .z) .n))) (caret_by_c a0 0 (w64 ((w64 (o7.1 + 1)) * o10.f_Cols)) b0_0 v0_1) (.c .z (.c .z .n)) rfl rfl fun o13 x14 h15 => ?_
  refine lRd (dAssign (.t .z)) rfl rfl ?_
  refine lKeep (.k (.d (.d (.d (.d (.d (.d (.d (.d (.d (.k (.k .n)))))))))))) ?_
  refine lNil ?_
  refine xCode ?_
  refine cSeq ?_
  refine cSeq ?_
  refine cRegion ?_
  refine lRd (dMove (.t (.s (.s .z)))) rfl rfl ?_
  refine lCall fok_66 (.c (.t .z) .n) (plane_Plane_Len_c a0 b0_0 v0_1) (.c .z (.c .z .n)) rfl rfl fun o16 x17 h18 => ?_
  refine lRd (dMove (.c rfl)) rfl rfl ?_
  refine lKeep (.k (.k (.d (.k (.k (.k .n)))))) ?_
  refine lNil ?_
  refine xCode ?_
  refine cLoopR (S := Int) (X := Unit) (S' := Unit) (X' := Unit) (caret_Newline_l1 K a0 o13 o16) (fun (s : Int) (x : Unit) => [(28, .int .i64 s), (27, .int .i64 o16), (6, .int .i64 o13), (2, .int .i64 0), (0, .pointer (some ⟨b0_0, 0, none⟩))]) (fun (s : Int) (x : Unit) => [.blk b0_0 [.int .i64 a0.f_size.f_Rows, .int .i64 a0.f_size.f_Cols, v0_1, .int .i64 a0.f_cursor] 126, .own v0_1 80 k_api_Cell a0.f_cells]) (fun (s : Unit) (x : Unit) => [(2, .int .i64 0), (0, .pointer (some ⟨b0_0, 0, none⟩))]) (fun (s : Unit) (x : Unit) => [.blk b0_0 [.int .i64 a0.f_size.f_Rows, .int .i64 a0.f_size.f_Cols, v0_1, .int .i64 a0.f_cursor] 126, .own v0_1 80 k_api_Cell a0.f_cells]) K 0 () (.c .z (.c (.s .z) (.c (.s (.s .z)) (.c (.s (.s (.s .z))) (.c (.s (.s (.s (.s .z)))) .n))))) (.c .z (.c .z .nil)) (fun _ => rfl) (fun n21 I22 h23 s19 x20 => ?_) (fun s35 x36 => ?_)
  · rw [caret_Newline_l1]
    refine cSeq ?_
    refine cRegion ?_
    refine lRd (dLt (.t .z) (.t (.s .z))) rfl rfl ?_
    refine lNil ?_
    refine xCode ?_
    refine cSeq ?_
    refine cCond (.t .z) (fun h24 => ?_) (fun h24 => ?_)
    · refine cSkip ?_
      refine xCode ?_
      refine cSeq ?_
      refine cBlock ?_
      refine cSeq ?_
      refine cRegion ?_
      refine lRd (dMove (.t (.s .z))) rfl rfl ?_
      refine lRd (dAssign (.t .z)) rfl rfl ?_
      refine lNil ?_
      refine xCode ?_
      refine cSeq ?_
      refine cRegion ?_
      refine lRd (dMove (.t (.s (.s (.s (.s (.s (.s (.s .z))))))))) rfl rfl ?_
      refine lRd (dMove (.t (.s (.s (.s (.s (.s (.s .z)))))))) rfl rfl ?_
      refine lRd (dMove (.t (.s (.s .z)))) rfl rfl ?_
      refine lCall fok_145 (.c (.t (.s (.s .z))) (.c (.t (.s .z)) (.c (.t .z) .n))) (caret_by_c a0 o13 s19 b0_0 v0_1) (.c .z (.c .z .n)) rfl rfl fun o25 x26 h27 => ?_
      refine lRd (dAssign (.t .z)) rfl rfl ?_
      refine lNil ?_
      refine xCode ?_
      refine cSeq ?_
      refine cRegion ?_
      refine lRd (dMove (.t (.s (.s (.s (.s (.s (.s (.s (.s (.s (.s (.s (.s .z)))))))))))))) rfl rfl ?_
      refine lRd (dMove (.t (.s .z))) rfl rfl ?_
      refine lCall fok_131 (.c (.t (.s .z)) (.c (.t .z) .n)) (field_Open_c K a0 o25 b0_0 v0_1) (.c .z (.c .z .n)) rfl rfl fun o28 x29 h30 => ?_
      refine lNil ?_
      refine xCode ?_
      refine cCondB (.t .z) (fun h31 => ?_) (fun h31 => ?_)
      · refine cSeq ?_
        refine cRegion ?_
        refine lRd (dMove (.t (.s (.s (.s (.s (.s (.s (.s (.s (.s (.s (.s (.s (.s (.s (.s .z))))))))))))))))) rfl rfl ?_
        refine lRd (dMove (.t (.s (.s (.s (.s .z)))))) rfl rfl ?_
        refine lCall fok_141 (.c (.t (.s .z)) (.c (.t .z) .n)) (caret_to_c a0 o25 b0_0 v0_1) (.c .z (.c .z .n)) rfl rfl fun o32 x33 h34 => ?_
        refine lRdK (dAssign (.t .z)) (.k (.k (.k (.k (.k (.k (.k (.k (.k (.k (.k (.k (.k (.k (.k (.k (.k (.d (Keep.refl _))))))))))))))))))) rfl rfl ?_
        refine lNil ?_
        refine xCode ?_
        refine cRet ?_
        refine rInner ?_
        exact rDone (rs := [.tmp 2]) rfl (.t .z .n) hD (.inl rfl) () rfl (.c .z (.c .z .nil))
      · refine cSkip ?_
        refine xBlock ?_
        refine xCode ?_
        refine cRegion ?_
        refine lRd (dAddI (.t (.s (.s (.s (.s (.s (.s (.s (.s (.s (.s (.s .z)))))))))))) (.c rfl)) rfl rfl ?_
        refine lRdK (dMove (.t .z)) (.k (.k (.k (.k (.k (.k (.k (.k (.k (.k (.k (.k (.d (Keep.refl _)))))))))))))) rfl rfl ?_
        refine lNil ?_
        exact xRound h23 (w64 (s19 + 1)) () (.c .z (.c (.s (.s (.s (.s (.s (.s (.s (.s (.s (.s (.s (.s (.s .z))))))))))))) (.c (.s (.s (.s (.s (.s (.s (.s (.s (.s (.s (.s (.s (.s (.s .z)))))))))))))) (.c (.s (.s (.s (.s (.s (.s (.s (.s (.s (.s (.s (.s (.s (.s (.s .z))))))))))))))) (.c (.s (.s (.s (.s (.s (.s (.s (.s (.s (.s (.s (.s (.s (.s (.s (.s .z)))))))))))))))) .n))))) (.c .z (.c .z .nil))
    · refine cExit ?_
      refine xOver ?_
      refine xOverF ?_
      exact xBreakR () () (.c (.s (.s (.s (.s .z)))) (.c (.s (.s (.s (.s (.s .z))))) .n)) (.c .z (.c .z .nil))
  · refine xCode ?_
    refine cSeq ?_
    refine cRegion ?_
    refine lRd (dMove (.t (.s .z))) rfl rfl ?_
    refine lCall fok_141 (.c (.t .z) (.c (.c rfl) .n)) (caret_to_c a0 0 b0_0 v0_1) (.c .z (.c .z .n)) rfl rfl fun o37 x38 h39 => ?_
    refine lRdK (dAssign (.t .z)) (.k (.k (.d (Keep.refl _)))) rfl rfl ?_
    refine lKeep (.k .n) ?_
    refine lNil ?_
    refine xCode ?_
    refine cRet ?_
    exact rDone (rs := [.tmp 2]) rfl (.t .z .n) hD (.inl rfl) () rfl (.c .z (.c .z .nil))

-- greenscreen/caret.Move
def caret_Move_m (a0 : plane_Plane) (a1 : Int) (a2 : Int) : Option (plane_Plane × Int) := (plane_Plane_Size_m a0).bind fun o1 => (plane_Plane_Cursor_m a0).bind fun o5 => (if o1.f_Rows ≠ 0 then (caret_by_m a0 o5 (w64 ((Int.tmod a1 o1.f_Rows) * o1.f_Cols))).bind fun o9 => (caret_by_m a0 o9 a2).bind fun o12 => (caret_to_m a0 o12).bind fun o15 => some (o15.1, o15.2) else none)
theorem caret_Move_c (a0 : plane_Plane) (a1 : Int) (a2 : Int) (b0_0 : Nat) (v0_1 : Value) : Con Tryz.prog 99 #[.pointer (some ⟨b0_0, 0, none⟩), .int .i64 a1, .int .i64 a2] [.blk b0_0 [.int .i64 a0.f_size.f_Rows, .int .i64 a0.f_size.f_Cols, v0_1, .int .i64 a0.f_cursor] 126, .own v0_1 80 k_api_Cell a0.f_cells] (caret_Move_m a0 a1 a2) (fun (o : plane_Plane × Int) (x : Unit) => .int .i64 o.2) (fun (o : plane_Plane × Int) (x : Unit) => [.blk b0_0 [.int .i64 o.1.f_size.f_Rows, .int .i64 o.1.f_size.f_Cols, v0_1, .int .i64 o.1.f_cursor] 126, .own v0_1 80 k_api_Cell o.1.f_cells]) := by
  unfold caret_Move_m
  refine con (args := [.pointer (some ⟨b0_0, 0, none⟩), .int .i64 a1, .int .i64 a2]) Tryz.func99 rfl 26 rfl (.c (.c (.c .n))) rfl fun c hD => ?_
  refine cSeq ?_
  refine cRegion ?_
  refine lRd (dAssign (.c rfl)) rfl rfl ?_
  refine lNil ?_
  refine xCode ?_
  refine cSeq ?_
  refine cRegion ?_
  refine lRd (dMove (.t (.s .z))) rfl rfl ?_
  refine lCall fok_147 (.c (.t .z) .n) (plane_Plane_Size_c a0 b0_0 v0_1) (.c .z (.c .z .n)) rfl rfl fun o1 x2 h3 => ?_
  refine lCh (cAlloc (cs := [.int .i64 0, .int .i64 0]) zer_33 rfl) rfl rfl fun b4 => ?_
  refine lChU (uStoreA (us := [.int .i64 o1.f_Rows, .int .i64 o1.f_Cols]) (cs' := [.int .i64 o1.f_Rows, .int .i64 o1.f_Cols]) .z siz_33 rfl (by intro u hu; simp only [List.mem_cons, List.not_mem_nil, or_false] at hu; rcases hu with rfl | rfl <;> first | rfl | assumption) rfl (by simp) (.t .z) (.t (.s .z))) ?_
  refine lKeep (.k (.d (.d (.k (.k (.k (.k .n))))))) ?_
  refine lNil ?_
  refine xCode ?_
  refine cSeq ?_
  refine cRegionM [15] [(0, .early), (1, .early), (2, .early), (3, .early), (4, .early), (5, .early), (6, .early), (7, .early), (8, .early), (9, .early), (10, .early), (11, .early), (12, .early), (13, .early), (14, .early), (15, .only), (16, .quiet)] mixed (by kernel_rfl) (.c .z (.c .z (.c .z .nil))) (.c .n) ?_
  refine mRd rfl rfl (fun _ _ _ => dMove (.t (.s (.s .z)))) rfl rfl ?_
  refine mRd rfl rfl (fun _ _ _ => dMove (.t (.s (.s (.s .z))))) rfl rfl ?_
  refine mRd rfl rfl (fun _ _ _ => dMove (.t (.s (.s (.s (.s .z)))))) rfl rfl ?_
  refine mRd rfl rfl (fun _ _ _ => dMove (.t (.s (.s (.s (.s (.s .z))))))) rfl rfl ?_
  refine mCallQ rfl rfl fok_68 (.c (.t .z) .n) (plane_Plane_Cursor_c a0 b0_0 v0_1) (.c (.s .z) (.c (.s .z) .n)) (fun _ _ => rfl) (fun _ _ => (.c (.s (.s .z)) (.c .z (.c .z .nil)))) rfl rfl fun o5 h7 => ?_
  refine mRd rfl rfl (fun _ _ _ => dMove (.t (.s (.s (.s (.s (.s (.s (.s (.s .z)))))))))) rfl rfl ?_
  refine mRd rfl rfl (fun _ _ _ => dFld fld_33_0 (by decide) (.t (.s (.s (.s (.s (.s (.s .z))))))) rfl) rfl rfl ?_
  refine mRd rfl rfl (fun _ _ _ => dLoad .z agg_3 (.t .z) rfl) rfl rfl ?_
  refine mGuard fun h8 => ?_
  refine mRd rfl rfl (fun _ _ _ => dRem (.t (.s (.s .z))) (.t .z) h8) rfl rfl ?_
  refine mRd rfl rfl (fun _ _ _ => dFld fld_33_1 (by decide) (.t (.s (.s (.s (.s (.s (.s (.s (.s (.s .z)))))))))) rfl) rfl rfl ?_
  refine mRd rfl rfl (fun _ _ _ => dLoad .z agg_3 (.t .z) rfl) rfl rfl ?_
  refine mRd rfl rfl (fun _ _ _ => dMulI (.t (.s (.s .z))) (.t .z)) rfl rfl ?_
  refine mCallQ rfl rfl fok_145 (.c (.t (.s (.s (.s (.s (.s (.s (.s (.s (.s .z)))))))))) (.c (.t (.s (.s (.s (.s (.s (.s (.s .z)))))))) (.c (.t .z) .n))) (caret_by_c a0 o5 (w64 ((Int.tmod a1 o1.f_Rows) * o1.f_Cols)) b0_0 v0_1) (.c (.s .z) (.c (.s .z) .n)) (fun _ _ => rfl) (fun _ _ => (.c (.s (.s .z)) (.c .z (.c .z .nil)))) rfl rfl fun o9 h11 => ?_
  refine mRd rfl rfl (fun _ _ _ => dMove (.t (.s (.s (.s (.s (.s (.s (.s (.s (.s (.s (.s (.s (.s (.s (.s (.s (.s .z))))))))))))))))))) rfl rfl ?_
  refine mCallQ rfl rfl fok_145 (.c (.t (.s (.s (.s (.s (.s (.s (.s (.s (.s (.s (.s (.s .z))))))))))))) (.c (.t (.s .z)) (.c (.t .z) .n))) (caret_by_c a0 o9 a2 b0_0 v0_1) (.c (.s .z) (.c (.s .z) .n)) (fun _ _ => rfl) (fun _ _ => (.c (.s (.s .z)) (.c .z (.c .z .nil)))) rfl rfl fun o12 h14 => ?_
  refine mCall rfl rfl fok_141 (.c (.t (.s (.s (.s (.s (.s (.s (.s (.s (.s (.s (.s (.s (.s (.s .z))))))))))))))) (.c (.t .z) .n)) (caret_to_c a0 o12 b0_0 v0_1) (.c (.s .z) (.c (.s .z) .n)) (fun o15 x16 => (.c (.s (.s .z)) (.c .z (.c .z .nil)))) (fun _ _ => (.c .n)) rfl rfl fun o15 x16 h17  => ?_
  refine mRdK rfl rfl (fun _ _ _ => dAssign (.t .z)) (.k (.k (.k (.k (.k (.k (.k (.k (.k (.k (.k (.k (.k (.k (.k (.k (.k (.d (Keep.refl _))))))))))))))))))) rfl rfl ?_
  refine mKeep (.k .n) ?_
  refine mNil ?_
  refine xCode ?_
  refine cRet ?_
  exact rDone (rs := [.tmp 6]) rfl (.t .z .n) hD (.inl rfl) () rfl (.c (.s .z) (.c (.s .z) .nil))

-- greenscreen/keyboard.move
def keyboard_move_m (K : Nat) (a0 : plane_Plane) (a1 : Int) : Option (plane_Plane × Bool) := (if a1 = 2 then (caret_Tab_m K a0).bind fun o2 => some (o2.1, true) else (if a1 = 3 then (caret_Back_m K a0).bind fun o6 => some (o6.1, true) else (if a1 = 4 then (caret_Newline_m K a0).bind fun o10 => some (o10.1, true) else (if a1 = 5 then none else (if a1 = 6 then (caret_Move_m a0 (-1) 0).bind fun o15 => some (o15.1, true) else (if a1 = 7 then (caret_Move_m a0 1 0).bind fun o19 => some (o19.1, true) else (if a1 = 8 then (caret_Move_m a0 0 (-1)).bind fun o23 => some (o23.1, true) else (if a1 = 9 then (caret_Move_m a0 0 1).bind fun o27 => some (o27.1, true) else some (a0, false)))))))))
theorem keyboard_move_c (K : Nat) (a0 : plane_Plane) (a1 : Int) (b0_0 : Nat) (v0_1 : Value) : Con Tryz.prog 51 #[.pointer (some ⟨b0_0, 0, none⟩), .int .i64 a1] [.blk b0_0 [.int .i64 a0.f_size.f_Rows, .int .i64 a0.f_size.f_Cols, v0_1, .int .i64 a0.f_cursor] 126, .own v0_1 80 k_api_Cell a0.f_cells] (keyboard_move_m K a0 a1) (fun (o : plane_Plane × Bool) (x : Unit) => .bool o.2) (fun (o : plane_Plane × Bool) (x : Unit) => [.blk b0_0 [.int .i64 o.1.f_size.f_Rows, .int .i64 o.1.f_size.f_Cols, v0_1, .int .i64 o.1.f_cursor] 126, .own v0_1 80 k_api_Cell o.1.f_cells]) := by
  unfold keyboard_move_m
  refine con (args := [.pointer (some ⟨b0_0, 0, none⟩), .int .i64 a1]) Tryz.func51 rfl 38 rfl (.c (.c .n)) rfl fun c hD => ?_
  refine cSeq ?_
  refine cRegion ?_
  refine lRd (dAssign (.c rfl)) rfl rfl ?_
  refine lNil ?_
  refine xCode ?_
  refine cSeq ?_
  refine cSeq ?_
  refine cRegion ?_
  refine lRd (dMove (.t (.s (.s .z)))) rfl rfl ?_
  refine lKeep (.k (.k (.k .n))) ?_
  refine lNil ?_
  refine xCode ?_
  refine cBlock ?_
  refine cSeq ?_
  refine cRegion ?_
  refine lRd (dEq (.t .z) (.c rfl)) rfl rfl ?_
  refine lRd (dAssign (.t .z)) rfl rfl ?_
  refine lKeep (.k (.d (.k (.k (.k .n))))) ?_
  refine lNil ?_
  refine xCode ?_
  refine cCond (.t .z) (fun h1 => ?_) (fun h1 => ?_)
  · refine cRegion ?_
    refine lRd (dMove (.t (.s (.s (.s .z))))) rfl rfl ?_
    refine lCallN fok_95 (.c (.t .z) .n) (caret_Tab_c K a0 b0_0 v0_1) (.c .z (.c .z .n)) rfl fun o2 x3 h4 => ?_
    refine lKeep (.d (.d (.d (.k .n)))) ?_
    refine lNil ?_
    refine xBlock ?_
    refine xCode ?_
    refine cSeq ?_
    refine cRegion ?_
    refine lRdK (dAssign (.c rfl)) (.d (Keep.refl _)) rfl rfl ?_
    refine lNil ?_
    refine xCode ?_
    refine cRet ?_
    exact rDone (rs := [.tmp 4]) rfl (.t .z .n) hD (.inl rfl) () rfl (.c .z (.c .z .nil))
  · refine cSeq ?_
    refine cRegion ?_
    refine lRd (dEq (.t (.s .z)) (.c rfl)) rfl rfl ?_
    refine lRd (dAssign (.t .z)) rfl rfl ?_
    refine lKeep (.k (.d (.d (.k (.k (.k .n)))))) ?_
    refine lNil ?_
    refine xCode ?_
    refine cCond (.t .z) (fun h5 => ?_) (fun h5 => ?_)
    · refine cRegion ?_
      refine lRd (dMove (.t (.s (.s (.s .z))))) rfl rfl ?_
      refine lCallN fok_96 (.c (.t .z) .n) (caret_Back_c K a0 b0_0 v0_1) (.c .z (.c .z .n)) rfl fun o6 x7 h8 => ?_
      refine lKeep (.d (.d (.d (.k .n)))) ?_
      refine lNil ?_
      refine xBlock ?_
      refine xCode ?_
      refine cSeq ?_
      refine cRegion ?_
      refine lRdK (dAssign (.c rfl)) (.d (Keep.refl _)) rfl rfl ?_
      refine lNil ?_
      refine xCode ?_
      refine cRet ?_
      exact rDone (rs := [.tmp 4]) rfl (.t .z .n) hD (.inl rfl) () rfl (.c .z (.c .z .nil))
    · refine cSeq ?_
      refine cRegion ?_
      refine lRd (dEq (.t (.s .z)) (.c rfl)) rfl rfl ?_
      refine lRd (dAssign (.t .z)) rfl rfl ?_
      refine lKeep (.k (.d (.d (.k (.k (.k .n)))))) ?_
      refine lNil ?_
      refine xCode ?_
      refine cCond (.t .z) (fun h9 => ?_) (fun h9 => ?_)
      · refine cRegion ?_
        refine lRd (dMove (.t (.s (.s (.s .z))))) rfl rfl ?_
        refine lCallN fok_97 (.c (.t .z) .n) (caret_Newline_c K a0 b0_0 v0_1) (.c .z (.c .z .n)) rfl fun o10 x11 h12 => ?_
        refine lKeep (.d (.d (.d (.k .n)))) ?_
        refine lNil ?_
        refine xBlock ?_
        refine xCode ?_
        refine cSeq ?_
        refine cRegion ?_
        refine lRdK (dAssign (.c rfl)) (.d (Keep.refl _)) rfl rfl ?_
        refine lNil ?_
        refine xCode ?_
        refine cRet ?_
        exact rDone (rs := [.tmp 4]) rfl (.t .z .n) hD (.inl rfl) () rfl (.c .z (.c .z .nil))
      · refine cSeq ?_
        refine cRegion ?_
        refine lRd (dEq (.t (.s .z)) (.c rfl)) rfl rfl ?_
        refine lRd (dAssign (.t .z)) rfl rfl ?_
        refine lKeep (.k (.d (.d (.k (.k (.k .n)))))) ?_
        refine lNil ?_
        refine xCode ?_
        refine cCond (.t .z) (fun h13 => ?_) (fun h13 => ?_)
        · exact cStuck
        · refine cSeq ?_
          refine cRegion ?_
          refine lRd (dEq (.t (.s .z)) (.c rfl)) rfl rfl ?_
          refine lRd (dAssign (.t .z)) rfl rfl ?_
          refine lKeep (.k (.d (.d (.k (.k (.k .n)))))) ?_
          refine lNil ?_
          refine xCode ?_
          refine cCond (.t .z) (fun h14 => ?_) (fun h14 => ?_)
          · refine cRegion ?_
            refine lRd (dMove (.t (.s (.s (.s .z))))) rfl rfl ?_
            refine lCallN fok_99 (.c (.t .z) (.c (.c rfl) (.c (.c rfl) .n))) (caret_Move_c a0 (-1) 0 b0_0 v0_1) (.c .z (.c .z .n)) rfl fun o15 x16 h17 => ?_
            refine lKeep (.d (.d (.d (.k .n)))) ?_
            refine lNil ?_
            refine xBlock ?_
            refine xCode ?_
            refine cSeq ?_
            refine cRegion ?_
            refine lRdK (dAssign (.c rfl)) (.d (Keep.refl _)) rfl rfl ?_
            refine lNil ?_
            refine xCode ?_
            refine cRet ?_
            exact rDone (rs := [.tmp 4]) rfl (.t .z .n) hD (.inl rfl) () rfl (.c .z (.c .z .nil))
          · refine cSeq ?_
            refine cRegion ?_
            refine lRd (dEq (.t (.s .z)) (.c rfl)) rfl rfl ?_
            refine lRd (dAssign (.t .z)) rfl rfl ?_
            refine lKeep (.k (.d (.d (.k (.k (.k .n)))))) ?_
            refine lNil ?_
            refine xCode ?_
            refine cCond (.t .z) (fun h18 => ?_) (fun h18 => ?_)
            · refine cRegion ?_
              refine lRd (dMove (.t (.s (.s (.s .z))))) rfl rfl ?_
              refine lCallN fok_99 (.c (.t .z) (.c (.c rfl) (.c (.c rfl) .n))) (caret_Move_c a0 1 0 b0_0 v0_1) (.c .z (.c .z .n)) rfl fun o19 x20 h21 => ?_
              refine lKeep (.d (.d (.d (.k .n)))) ?_
              refine lNil ?_
              refine xBlock ?_
              refine xCode ?_
              refine cSeq ?_
              refine cRegion ?_
              refine lRdK (dAssign (.c rfl)) (.d (Keep.refl _)) rfl rfl ?_
              refine lNil ?_
              refine xCode ?_
              refine cRet ?_
              exact rDone (rs := [.tmp 4]) rfl (.t .z .n) hD (.inl rfl) () rfl (.c .z (.c .z .nil))
            · refine cSeq ?_
              refine cRegion ?_
              refine lRd (dEq (.t (.s .z)) (.c rfl)) rfl rfl ?_
              refine lRd (dAssign (.t .z)) rfl rfl ?_
              refine lKeep (.k (.d (.d (.k (.k (.k .n)))))) ?_
              refine lNil ?_
              refine xCode ?_
              refine cCond (.t .z) (fun h22 => ?_) (fun h22 => ?_)
              · refine cRegion ?_
                refine lRd (dMove (.t (.s (.s (.s .z))))) rfl rfl ?_
                refine lCallN fok_99 (.c (.t .z) (.c (.c rfl) (.c (.c rfl) .n))) (caret_Move_c a0 0 (-1) b0_0 v0_1) (.c .z (.c .z .n)) rfl fun o23 x24 h25 => ?_
                refine lKeep (.d (.d (.d (.k .n)))) ?_
                refine lNil ?_
                refine xBlock ?_
                refine xCode ?_
                refine cSeq ?_
                refine cRegion ?_
                refine lRdK (dAssign (.c rfl)) (.d (Keep.refl _)) rfl rfl ?_
                refine lNil ?_
                refine xCode ?_
                refine cRet ?_
                exact rDone (rs := [.tmp 4]) rfl (.t .z .n) hD (.inl rfl) () rfl (.c .z (.c .z .nil))
              · refine cSeq ?_
                refine cRegion ?_
                refine lRd (dEq (.t (.s .z)) (.c rfl)) rfl rfl ?_
                refine lRd (dAssign (.t .z)) rfl rfl ?_
                refine lKeep (.k (.d (.d (.d (.k (.k .n)))))) ?_
                refine lNil ?_
                refine xCode ?_
                refine cCond (.t .z) (fun h26 => ?_) (fun h26 => ?_)
                · refine cRegion ?_
                  refine lRd (dMove (.t (.s (.s .z)))) rfl rfl ?_
                  refine lCallN fok_99 (.c (.t .z) (.c (.c rfl) (.c (.c rfl) .n))) (caret_Move_c a0 0 1 b0_0 v0_1) (.c .z (.c .z .n)) rfl fun o27 x28 h29 => ?_
                  refine lKeep (.d (.d (.k .n))) ?_
                  refine lNil ?_
                  refine xBlock ?_
                  refine xCode ?_
                  refine cSeq ?_
                  refine cRegion ?_
                  refine lRdK (dAssign (.c rfl)) (.d (Keep.refl _)) rfl rfl ?_
                  refine lNil ?_
                  refine xCode ?_
                  refine cRet ?_
                  exact rDone (rs := [.tmp 4]) rfl (.t .z .n) hD (.inl rfl) () rfl (.c .z (.c .z .nil))
                · refine cSeq ?_
                  refine cRegion ?_
                  refine lRdK (dAssign (.c rfl)) (.k (.d (Keep.refl _))) rfl rfl ?_
                  refine lKeep (.k .n) ?_
                  refine lNil ?_
                  refine xCode ?_
                  refine cRet ?_
                  exact rDone (rs := [.tmp 4]) rfl (.t .z .n) hD (.inl rfl) () rfl (.c .z (.c .z .nil))

-- (*greenscreen/lock.Lock).Fail
def lock_Lock_Fail_m (a0 : lock_Lock) (a1 : Int) : Option (lock_Lock × Int) := (lock_Lock_May_m a0).bind fun o1 => (if o1 ≠ 0 then some (a0, o1) else (if a1 ≠ 0 then (lock_Lock_turn_m a0 3 a1).bind fun o6 => some (o6, a1) else some (a0, a1)))
theorem lock_Lock_Fail_c (a0 : lock_Lock) (a1 : Int) (b0_0 : Nat) : Con Tryz.prog 52 #[.pointer (some ⟨b0_0, 0, none⟩), .int .i64 a1] [.blk b0_0 [.int .i64 a0.f_state, .int .i64 a0.f_why, .int .i64 a0.f_turns] 95] (lock_Lock_Fail_m a0 a1) (fun (o : lock_Lock × Int) (x : Unit) => .int .i64 o.2) (fun (o : lock_Lock × Int) (x : Unit) => [.blk b0_0 [.int .i64 o.1.f_state, .int .i64 o.1.f_why, .int .i64 o.1.f_turns] 95]) := by
  unfold lock_Lock_Fail_m
  refine con (args := [.pointer (some ⟨b0_0, 0, none⟩), .int .i64 a1]) Tryz.func52 rfl 17 rfl (.c (.c .n)) rfl fun c hD => ?_
  refine cSeq ?_
  refine cRegion ?_
  refine lRd (dAssign (.c rfl)) rfl rfl ?_
  refine lNil ?_
  refine xCode ?_
  refine cSeq ?_
  refine cSeq ?_
  refine cRegion ?_
  refine lRd (dMove (.t (.s .z))) rfl rfl ?_
  refine lCall fok_28 (.c (.t .z) .n) (lock_Lock_May_c a0 b0_0) (.c .z .n) rfl rfl fun o1 x2 h3 => ?_
  refine lRd (dAssign (.t .z)) rfl rfl ?_
  refine lKeep (.k (.d (.d (.k (.k (.k .n)))))) ?_
  refine lNil ?_
  refine xCode ?_
  refine cSeq ?_
  refine cRegion ?_
  refine lRd (dMove (.t .z)) rfl rfl ?_
  refine lRd (dNe (.t .z) (.c rfl)) rfl rfl ?_
  refine lKeep (.k (.d (.k (.k (.k (.k .n)))))) ?_
  refine lNil ?_
  refine xCode ?_
  refine cCond (.t .z) (fun h4 => ?_) (fun h4 => ?_)
  · refine cSeq ?_
    refine cRegion ?_
    refine lRd (dMove (.t (.s .z))) rfl rfl ?_
    refine lRdK (dAssign (.t .z)) (.k (.k (.k (.d (Keep.refl _))))) rfl rfl ?_
    refine lKeep (.k (.d (.d (.d (.k (.k .n)))))) ?_
    refine lNil ?_
    refine xCode ?_
    refine cRet ?_
    exact rDone (rs := [.tmp 4]) rfl (.t .z .n) hD (.inl rfl) () rfl (.c .z .nil)
  · refine cSkip ?_
    refine xCode ?_
    refine cSeq ?_
    refine cSeq ?_
    refine cRegion ?_
    refine lRd (dMove (.t (.s (.s (.s (.s .z)))))) rfl rfl ?_
    refine lRd (dNe (.t .z) (.c rfl)) rfl rfl ?_
    refine lKeep (.k (.d (.d (.d (.k (.k (.k .n))))))) ?_
    refine lNil ?_
    refine xCode ?_
    refine cCond (.t .z) (fun h5 => ?_) (fun h5 => ?_)
    · refine cRegion ?_
      refine lRd (dMove (.t (.s (.s .z)))) rfl rfl ?_
      refine lRd (dMove (.t (.s (.s (.s (.s .z)))))) rfl rfl ?_
      refine lCallN fok_47 (.c (.t (.s .z)) (.c (.c rfl) (.c (.t .z) .n))) (lock_Lock_turn_c a0 3 a1 b0_0) (.c .z .n) rfl fun o6 x7 h8 => ?_
      refine lKeep (.d (.d (.d (.k (.d (.k .n)))))) ?_
      refine lNil ?_
      refine xCode ?_
      refine cSeq ?_
      refine cRegion ?_
      refine lRd (dMove (.t (.s .z))) rfl rfl ?_
      refine lRdK (dAssign (.t .z)) (.k (.d (Keep.refl _))) rfl rfl ?_
      refine lKeep (.k .n) ?_
      refine lNil ?_
      refine xCode ?_
      refine cRet ?_
      exact rDone (rs := [.tmp 4]) rfl (.t .z .n) hD (.inl rfl) () rfl (.c .z .nil)
    · refine cSkip ?_
      refine xCode ?_
      refine cSeq ?_
      refine cRegion ?_
      refine lRd (dMove (.t (.s (.s (.s .z))))) rfl rfl ?_
      refine lRdK (dAssign (.t .z)) (.k (.k (.d (Keep.refl _)))) rfl rfl ?_
      refine lKeep (.k .n) ?_
      refine lNil ?_
      refine xCode ?_
      refine cRet ?_
      exact rDone (rs := [.tmp 4]) rfl (.t .z .n) hD (.inl rfl) () rfl (.c .z .nil)

-- (*greenscreen/plane.Plane).Set
def plane_Plane_Set_m (a0 : plane_Plane) (a1 : Int) (a2 : api_Cell) : Option (plane_Plane × Bool) := (plane_Plane_has_m a0 a1).bind fun o2 => (if (!o2) = true then some (a0, false) else (ix a0.f_cells a1).bind fun y6 => some ((⟨a0.f_size, (a0.f_cells.set (Int.toNat a1) a2), a0.f_cursor⟩ : plane_Plane), true))
theorem plane_Plane_Set_c (a0 : plane_Plane) (a1 : Int) (a2 : api_Cell) (b0_0 : Nat) (v0_1 : Value) : Con Tryz.prog 132 #[.pointer (some ⟨b0_0, 0, none⟩), .int .i64 a1, .agg #[vB a2.f_Byte, .bool a2.f_GE, .bool a2.f_Start, vB a2.f_Light, vB a2.f_Color]] [.blk b0_0 [.int .i64 a0.f_size.f_Rows, .int .i64 a0.f_size.f_Cols, v0_1, .int .i64 a0.f_cursor] 126, .own v0_1 80 k_api_Cell a0.f_cells] (plane_Plane_Set_m a0 a1 a2) (fun (o : plane_Plane × Bool) (x : Unit) => .bool o.2) (fun (o : plane_Plane × Bool) (x : Unit) => [.blk b0_0 [.int .i64 o.1.f_size.f_Rows, .int .i64 o.1.f_size.f_Cols, v0_1, .int .i64 o.1.f_cursor] 126, .own v0_1 80 k_api_Cell o.1.f_cells]) := by
  unfold plane_Plane_Set_m
  refine con (args := [.pointer (some ⟨b0_0, 0, none⟩), .int .i64 a1, .agg #[vB a2.f_Byte, .bool a2.f_GE, .bool a2.f_Start, vB a2.f_Light, vB a2.f_Color]]) Tryz.func132 rfl 18 rfl (.c (.c (.c .n))) rfl fun c hD => ?_
  refine cSeq ?_
  refine cRegion ?_
  refine lCh (cBox (cs := [vB a2.f_Byte, .bool a2.f_GE, .bool a2.f_Start, vB a2.f_Light, vB a2.f_Color]) (.t (.s (.s .z))) rfl) rfl rfl fun b1 => ?_
  refine lRd (dAssign (.c rfl)) rfl rfl ?_
  refine lKeep (.k (.k (.k (.k .n)))) ?_
  refine lNil ?_
  refine xCode ?_
  refine cSeq ?_
  refine cSeq ?_
  refine cRegion ?_
  refine lRd (dMove (.t (.s (.s .z)))) rfl rfl ?_
  refine lRd (dMove (.t (.s (.s (.s (.s .z)))))) rfl rfl ?_
  refine lCall fok_75 (.c (.t (.s .z)) (.c (.t .z) .n)) (plane_Plane_has_c a0 a1 b0_0 v0_1) (.c (.s .z) (.c (.s .z) .n)) rfl rfl fun o2 x3 h4 => ?_
  refine lRd (dNot (.t .z)) rfl rfl ?_
  refine lKeep (.k (.d (.d (.d (.k (.k (.k (.k .n)))))))) ?_
  refine lNil ?_
  refine xCode ?_
  refine cCondB (.t .z) (fun h5 => ?_) (fun h5 => ?_)
  · refine cSeq ?_
    refine cRegion ?_
    refine lRdK (dAssign (.c rfl)) (.k (.d (Keep.refl _))) rfl rfl ?_
    refine lKeep (.k (.d (.k (.k (.k .n))))) ?_
    refine lNil ?_
    refine xCode ?_
    refine cRet ?_
    exact rDone (rs := [.tmp 6]) rfl (.t .z .n) hD (.inl rfl) () rfl (.c .z (.c .z .nil))
  · refine cSkip ?_
    refine xCode ?_
    refine cSeq ?_
    refine cRegionM [7] [(0, .early), (1, .early), (2, .early), (3, .early), (4, .early), (5, .early), (6, .early), (7, .only)] mixed (by kernel_rfl) (.c .z (.c (.s .z) (.c .z .nil))) (.c (.c .n)) ?_
    refine mRd rfl rfl (fun _ _ _ => dMove (.t (.s (.s (.s .z))))) rfl rfl ?_
    refine mRd rfl rfl (fun _ _ _ => dNil (.t .z)) rfl rfl ?_
    refine mRd rfl rfl (fun _ _ _ => dFld fld_126_1 (by decide) (.t .z) rfl) rfl rfl ?_
    refine mRd rfl rfl (fun _ _ _ => dLoad .z agg_37 (.t .z) rfl) rfl rfl ?_
    refine mRd rfl rfl (fun _ _ _ => dMove (.t (.s (.s (.s (.s (.s (.s (.s (.s .z)))))))))) rfl rfl ?_
    refine mRd rfl rfl (fun _ _ _ => dLoadA (us := [vB a2.f_Byte, .bool a2.f_GE, .bool a2.f_Start, vB a2.f_Light, vB a2.f_Color]) (.s .z) agg_80 siz_80 rfl (.t (.s (.s (.s (.s (.s (.s (.s .z)))))))) rfl) rfl rfl ?_
    refine mIx fun y6 h7 h8 => ?_
    refine mRd rfl rfl (fun _ _ _ => dIxAddr (slOwn (.s (.s .z))) und_37 siz_80 (.t (.s (.s .z))) (.t (.s .z)) h7 h8) rfl rfl ?_
    refine mChU rfl rfl (uStoreEA (us := [vB a2.f_Byte, .bool a2.f_GE, .bool a2.f_Start, vB a2.f_Light, vB a2.f_Color]) (z' := a2) (.s (.s .z)) (.s (.s .z)) siz_80 rfl (by intro u hu; simp only [List.mem_cons, List.not_mem_nil, or_false] at hu; rcases hu with rfl | rfl | rfl | rfl | rfl <;> first | rfl | assumption) (.t .z) (.t (.s .z)) h8 (fun _ _ cs _ h => by cases h; exact ⟨by simp, rfl⟩)) (.c .z (.c .z (.c .z .nil))) (.c (.c .n)) ?_
    refine mKeep (.d (.d (.d (.d (.d (.d (.d (.d (.k .n))))))))) ?_
    refine mNil ?_
    refine xCode ?_
    refine cSeq ?_
    refine cRegion ?_
    refine lRdK (dAssign (.c rfl)) (.d (Keep.refl _)) rfl rfl ?_
    refine lNil ?_
    refine xCode ?_
    refine cRet ?_
    exact rDone (rs := [.tmp 6]) rfl (.t .z .n) hD (.inl rfl) () rfl (.c .z (.c (.s .z) .nil))

-- greenscreen/attr.Modify
def attr_Modify_m (a0 : UInt8) (a1 : Bool) : Option (UInt8) := (if a1 = true then some (a0 ||| (1 : UInt8)) else some (a0 &&& ~~~(1 : UInt8)))
theorem attr_Modify_c (a0 : UInt8) (a1 : Bool) : Con Tryz.prog 134 #[vB a0, .bool a1] [] (attr_Modify_m a0 a1) (fun (o : UInt8) (x : Unit) => vB o) (fun (o : UInt8) (x : Unit) => []) := by
  unfold attr_Modify_m
  refine con (args := [vB a0, .bool a1]) Tryz.func134 rfl 10 rfl (.c (.c .n)) rfl fun c hD => ?_
  refine cSeq ?_
  refine cRegion ?_
  refine lRd (dAssign (.c (v' := vB 0) rfl)) rfl rfl ?_
  refine lNil ?_
  refine xCode ?_
  refine cSeq ?_
  refine cSeq ?_
  refine cRegion ?_
  refine lRd (dMove (.t (.s (.s .z)))) rfl rfl ?_
  refine lKeep (.k (.k (.k .n))) ?_
  refine lNil ?_
  refine xCode ?_
  refine cCondB (.t .z) (fun h1 => ?_) (fun h1 => ?_)
  · refine cSeq ?_
    refine cRegion ?_
    refine lRd (dMove (.t (.s (.s .z)))) rfl rfl ?_
    refine lRd (dOrB (.t .z) (.c (v' := vB 1) rfl)) rfl rfl ?_
    refine lRdK (dAssign (.t .z)) (.k (.k (.k (.d (Keep.refl _))))) rfl rfl ?_
    refine lKeep (.k (.d (.d (.d (.k .n))))) ?_
    refine lNil ?_
    refine xCode ?_
    refine cRet ?_
    exact rDone (rs := [.tmp 4]) rfl (.t .z .n) hD (.inl rfl) () rfl .nil
  · refine cSkip ?_
    refine xCode ?_
    refine cSeq ?_
    refine cRegion ?_
    refine lRd (dMove (.t (.s (.s .z)))) rfl rfl ?_
    refine lRd (dAndNotB (.t .z) (.c (v' := vB 1) rfl)) rfl rfl ?_
    refine lRdK (dAssign (.t .z)) (.k (.k (.k (.d (Keep.refl _))))) rfl rfl ?_
    refine lKeep (.k .n) ?_
    refine lNil ?_
    refine xCode ?_
    refine cRet ?_
    exact rDone (rs := [.tmp 4]) rfl (.t .z .n) hD (.inl rfl) () rfl .nil

-- greenscreen/attr.Numeric
def attr_Numeric_m (a0 : UInt8) : Option (Bool) := some (decide ((a0 &&& (16 : UInt8)) ≠ (0 : UInt8)))
theorem attr_Numeric_c (a0 : UInt8) : Con Tryz.prog 182 #[vB a0] [] (attr_Numeric_m a0) (fun (o : Bool) (x : Unit) => .bool o) (fun (o : Bool) (x : Unit) => []) := by
  unfold attr_Numeric_m
  refine con (args := [vB a0]) Tryz.func182 rfl 6 rfl (.c .n) rfl fun c hD => ?_
  refine cSeq ?_
  refine cRegion ?_
  refine lRd (dAssign (.c rfl)) rfl rfl ?_
  refine lNil ?_
  refine xCode ?_
  refine cSeq ?_
  refine cRegion ?_
  refine lRd (dMove (.t (.s .z))) rfl rfl ?_
  refine lRd (dAndB (.t .z) (.c (v' := vB 16) rfl)) rfl rfl ?_
  refine lRd (dNeB (.t .z) (.c (v' := vB 0) rfl)) rfl rfl ?_
  refine lRdK (dAssign (.t .z)) (.k (.k (.k (.d (Keep.refl _))))) rfl rfl ?_
  refine lKeep (.k .n) ?_
  refine lNil ?_
  refine xCode ?_
  refine cRet ?_
  exact rDone (rs := [.tmp 2]) rfl (.t .z .n) hD (.inl rfl) () rfl .nil

-- greenscreen/code.Digit
def code_Digit_m (a0 : UInt8) : Option (Bool) := (if a0 ≥ (240 : UInt8) then some (decide (a0 ≤ (249 : UInt8))) else some false)
theorem code_Digit_c (a0 : UInt8) : Con Tryz.prog 218 #[vB a0] [] (code_Digit_m a0) (fun (o : Bool) (x : Unit) => .bool o) (fun (o : Bool) (x : Unit) => []) := by
  unfold code_Digit_m
  refine con (args := [vB a0]) Tryz.func218 rfl 9 rfl (.c .n) rfl fun c hD => ?_
  refine cSeq ?_
  refine cRegion ?_
  refine lRd (dAssign (.c rfl)) rfl rfl ?_
  refine lNil ?_
  refine xCode ?_
  refine cSeq ?_
  refine cRegion ?_
  refine lRd (dMove (.t (.s .z))) rfl rfl ?_
  refine lRd (dGeB (.t .z) (.c (v' := vB 240) rfl)) rfl rfl ?_
  refine lRd (dMove (.t .z)) rfl rfl ?_
  refine lCase (fun h1 => ?_) (fun h1 => ?_)
  · refine lRdG rfl .z (decide_eq_true h1) (dMove (.t (.s (.s (.s (.s .z)))))) rfl rfl ?_
    refine lRdG rfl (.s .z) (decide_eq_true h1) (dLeB (.t .z) (.c (v' := vB 249) rfl)) rfl rfl ?_
    refine lRd (dPickT (.t (.s (.s .z))) (decide_eq_true h1) (.t .z)) rfl rfl ?_
    refine lRdK (dAssign (.t .z)) (.k (.k (.k (.k (.k (.k (.d (Keep.refl _)))))))) rfl rfl ?_
    refine lKeep (.k .n) ?_
    refine lNil ?_
    refine xCode ?_
    refine cRet ?_
    exact rDone (rs := [.tmp 2]) rfl (.t .z .n) hD (.inl rfl) () rfl .nil
  · refine lPass rfl .z (nbT (decide_eq_false h1)) rfl ?_
    refine lPass rfl .z (nbT (decide_eq_false h1)) rfl ?_
    refine lRd (dPickF (.t .z) (decide_eq_false h1) (.c rfl)) rfl rfl ?_
    refine lRdK (dAssign (.t .z)) (.k (.k (.k (.k (.d (Keep.refl _)))))) rfl rfl ?_
    refine lKeep (.k .n) ?_
    refine lNil ?_
    refine xCode ?_
    refine cRet ?_
    exact rDone (rs := [.tmp 2]) rfl (.t .z .n) hD (.inl rfl) () rfl .nil

-- greenscreen/typing.number
def typing_number_m (a0 : UInt8) : Option (Bool) := (code_Digit_m a0).bind fun o1 => (if o1 = true then some true else (if a0 = (75 : UInt8) then some true else (if a0 = (96 : UInt8) then some true else some (decide (a0 = (28 : UInt8))))))
theorem typing_number_c (a0 : UInt8) : Con Tryz.prog 183 #[vB a0] [] (typing_number_m a0) (fun (o : Bool) (x : Unit) => .bool o) (fun (o : Bool) (x : Unit) => []) := by
  unfold typing_number_m
  refine con (args := [vB a0]) Tryz.func183 rfl 17 rfl (.c .n) rfl fun c hD => ?_
  refine cSeq ?_
  refine cRegion ?_
  refine lRd (dAssign (.c rfl)) rfl rfl ?_
  refine lNil ?_
  refine xCode ?_
  refine cSeq ?_
  refine cRegion ?_
  refine lRd (dMove (.t (.s .z))) rfl rfl ?_
  refine lCall fok_218 (.c (.t .z) .n) (code_Digit_c a0) .n rfl rfl fun o1 x2 h3 => ?_
  refine lRd (dMove (.t .z)) rfl rfl ?_
  refine lCase (fun h4 => ?_) (fun h4 => ?_)
  · refine lPass rfl .z (nbF h4) rfl ?_
    refine lPass rfl .z (nbF h4) rfl ?_
    refine lRd (dPickT (.t .z) h4 (.c rfl)) rfl rfl ?_
    refine lRd (dMove (.t .z)) rfl rfl ?_
    refine lPass rfl .z (nbF rfl) rfl ?_
    refine lPass rfl .z (nbF rfl) rfl ?_
    refine lRd (dPickT (.t .z) rfl (.c rfl)) rfl rfl ?_
    refine lRd (dMove (.t .z)) rfl rfl ?_
    refine lPass rfl .z (nbF rfl) rfl ?_
    refine lPass rfl .z (nbF rfl) rfl ?_
    refine lRd (dPickT (.t .z) rfl (.c rfl)) rfl rfl ?_
    refine lRdK (dAssign (.t .z)) (.k (.k (.k (.k (.k (.k (.k (.k (.d (Keep.refl _)))))))))) rfl rfl ?_
    refine lKeep (.k .n) ?_
    refine lNil ?_
    refine xCode ?_
    refine cRet ?_
    exact rDone (rs := [.tmp 2]) rfl (.t .z .n) hD (.inl rfl) () rfl .nil
  · refine lRdG rfl .z (Bool.eq_false_iff.mpr h4) (dMove (.t (.s (.s (.s (.s .z)))))) rfl rfl ?_
    refine lRdG rfl (.s .z) (Bool.eq_false_iff.mpr h4) (dEqB (.t .z) (.c (v' := vB 75) rfl)) rfl rfl ?_
    refine lRd (dPickF (.t (.s (.s .z))) (Bool.eq_false_iff.mpr h4) (.t .z)) rfl rfl ?_
    refine lRd (dMove (.t .z)) rfl rfl ?_
    refine lCase (fun h5 => ?_) (fun h5 => ?_)
    · refine lPass rfl .z (nbF (decide_eq_true h5)) rfl ?_
      refine lPass rfl .z (nbF (decide_eq_true h5)) rfl ?_
      refine lRd (dPickT (.t .z) (decide_eq_true h5) (.c rfl)) rfl rfl ?_
      refine lRd (dMove (.t .z)) rfl rfl ?_
      refine lPass rfl .z (nbF rfl) rfl ?_
      refine lPass rfl .z (nbF rfl) rfl ?_
      refine lRd (dPickT (.t .z) rfl (.c rfl)) rfl rfl ?_
      refine lRdK (dAssign (.t .z)) (.k (.k (.k (.k (.k (.k (.k (.k (.k (.k (.d (Keep.refl _)))))))))))) rfl rfl ?_
      refine lKeep (.k .n) ?_
      refine lNil ?_
      refine xCode ?_
      refine cRet ?_
      exact rDone (rs := [.tmp 2]) rfl (.t .z .n) hD (.inl rfl) () rfl .nil
    · refine lRdG rfl .z (decide_eq_false h5) (dMove (.t (.s (.s (.s (.s (.s (.s (.s (.s .z)))))))))) rfl rfl ?_
      refine lRdG rfl (.s .z) (decide_eq_false h5) (dEqB (.t .z) (.c (v' := vB 96) rfl)) rfl rfl ?_
      refine lRd (dPickF (.t (.s (.s .z))) (decide_eq_false h5) (.t .z)) rfl rfl ?_
      refine lRd (dMove (.t .z)) rfl rfl ?_
      refine lCase (fun h6 => ?_) (fun h6 => ?_)
      · refine lPass rfl .z (nbF (decide_eq_true h6)) rfl ?_
        refine lPass rfl .z (nbF (decide_eq_true h6)) rfl ?_
        refine lRd (dPickT (.t .z) (decide_eq_true h6) (.c rfl)) rfl rfl ?_
        refine lRdK (dAssign (.t .z)) (.k (.k (.k (.k (.k (.k (.k (.k (.k (.k (.k (.k (.d (Keep.refl _)))))))))))))) rfl rfl ?_
        refine lKeep (.k .n) ?_
        refine lNil ?_
        refine xCode ?_
        refine cRet ?_
        exact rDone (rs := [.tmp 2]) rfl (.t .z .n) hD (.inl rfl) () rfl .nil
      · refine lRdG rfl .z (decide_eq_false h6) (dMove (.t (.s (.s (.s (.s (.s (.s (.s (.s (.s (.s (.s (.s .z)))))))))))))) rfl rfl ?_
        refine lRdG rfl (.s .z) (decide_eq_false h6) (dEqB (.t .z) (.c (v' := vB 28) rfl)) rfl rfl ?_
        refine lRd (dPickF (.t (.s (.s .z))) (decide_eq_false h6) (.t .z)) rfl rfl ?_
        refine lRdK (dAssign (.t .z)) (.k (.k (.k (.k (.k (.k (.k (.k (.k (.k (.k (.k (.k (.k (.d (Keep.refl _)))))))))))))))) rfl rfl ?_
        refine lKeep (.k .n) ?_
        refine lNil ?_
        refine xCode ?_
        refine cRet ?_
        exact rDone (rs := [.tmp 2]) rfl (.t .z .n) hD (.inl rfl) () rfl .nil

-- greenscreen/typing.may
def typing_may_m (K : Nat) (a0 : plane_Plane) (a1 : UInt8) : Option (Int) := (plane_Plane_Cursor_m a0).bind fun o1 => (field_Of_m K a0 o1).bind fun o4 => (plane_Plane_Cursor_m a0).bind fun o8 => (field_Open_m K a0 o8).bind fun o11 => (if (!o11) = true then some 41 else ((if o4.2 = true then (attr_Numeric_m o4.1.f_Attr).bind fun o16 => (if o16 = true then (typing_number_m a1).bind fun o20 => some (!o20) else some false) else some false)).bind fun (s23 : Bool) => (if s23 = true then some 42 else some 0))
theorem typing_may_c (K : Nat) (a0 : plane_Plane) (a1 : UInt8) (b0_0 : Nat) (v0_1 : Value) : Con Tryz.prog 148 #[.pointer (some ⟨b0_0, 0, none⟩), vB a1] [.blk b0_0 [.int .i64 a0.f_size.f_Rows, .int .i64 a0.f_size.f_Cols, v0_1, .int .i64 a0.f_cursor] 126, .own v0_1 80 k_api_Cell a0.f_cells] (typing_may_m K a0 a1) (fun (o : Int) (x : Unit) => .int .i64 o) (fun (o : Int) (x : Unit) => [.blk b0_0 [.int .i64 a0.f_size.f_Rows, .int .i64 a0.f_size.f_Cols, v0_1, .int .i64 a0.f_cursor] 126, .own v0_1 80 k_api_Cell a0.f_cells]) := by
  unfold typing_may_m
  refine con (args := [.pointer (some ⟨b0_0, 0, none⟩), vB a1]) Tryz.func148 rfl 32 rfl (.c (.c .n)) rfl fun c hD => ?_
  refine cSeq ?_
  refine cRegion ?_
  refine lRd (dAssign (.c rfl)) rfl rfl ?_
  refine lNil ?_
  refine xCode ?_
  refine cSeq ?_
  refine cRegion ?_
  refine lRd (dMove (.t (.s .z))) rfl rfl ?_
  refine lRd (dMove (.t (.s (.s .z)))) rfl rfl ?_
  refine lCall fok_68 (.c (.t .z) .n) (plane_Plane_Cursor_c a0 b0_0 v0_1) (.c .z (.c .z .n)) rfl rfl fun o1 x2 h3 => ?_
  refine lCall fok_143 (.c (.t (.s (.s .z))) (.c (.t .z) .n)) (field_Of_c K a0 o1 b0_0 v0_1) (.c .z (.c .z .n)) rfl rfl fun o4 x5 h6 => ?_
  refine lRd (dMove (.t .z)) rfl rfl ?_
  refine lRd (dExtract (.t .z) rfl) rfl rfl ?_
  refine lRd (dExtract (.t (.s .z)) rfl) rfl rfl ?_
  refine lCh (cAlloc (cs := [.int .i64 0, .int .i64 0, vB 0]) zer_193 rfl) rfl rfl fun b7 => ?_
  refine lChU (uStoreA (us := [.int .i64 o4.1.f_Start, .int .i64 o4.1.f_Len, vB o4.1.f_Attr]) (cs' := [.int .i64 o4.1.f_Start, .int .i64 o4.1.f_Len, vB o4.1.f_Attr]) .z siz_193 rfl (by intro u hu; simp only [List.mem_cons, List.not_mem_nil, or_false] at hu; rcases hu with rfl | rfl | rfl <;> first | rfl | assumption) rfl (by simp) (.t .z) (.t (.s (.s .z)))) ?_
  refine lRd (dAssign (.t (.s .z))) rfl rfl ?_
  refine lKeep (.k (.k (.d (.d (.d (.d (.d (.d (.d (.k (.k (.k .n)))))))))))) ?_
  refine lNil ?_
  refine xCode ?_
  refine cSeq ?_
  refine cBlock ?_
  refine cSeq ?_
  refine cRegion ?_
  refine lRd (dMove (.t (.s (.s (.s .z))))) rfl rfl ?_
  refine lRd (dMove (.t (.s (.s (.s (.s .z)))))) rfl rfl ?_
  refine lCall fok_68 (.c (.t .z) .n) (plane_Plane_Cursor_c a0 b0_0 v0_1) (.c (.s .z) (.c (.s .z) .n)) rfl rfl fun o8 x9 h10 => ?_
  refine lCall fok_131 (.c (.t (.s (.s .z))) (.c (.t .z) .n)) (field_Open_c K a0 o8 b0_0 v0_1) (.c .z (.c .z .n)) rfl rfl fun o11 x12 h13 => ?_
  refine lRd (dNot (.t .z)) rfl rfl ?_
  refine lRd (dAssign (.t .z)) rfl rfl ?_
  refine lKeep (.k (.d (.d (.d (.d (.d (.k (.k (.k (.d (.k .n))))))))))) ?_
  refine lNil ?_
  refine xCode ?_
  refine cCondB (.t .z) (fun h14 => ?_) (fun h14 => ?_)
  · refine cSeq ?_
    refine cRegion ?_
    refine lRdK (dAssign (.c rfl)) (.k (.k (.k (.d (Keep.refl _))))) rfl rfl ?_
    refine lKeep (.k .n) ?_
    refine lNil ?_
    refine xCode ?_
    refine cRet ?_
    exact rDone (rs := [.tmp 4]) rfl (.t .z .n) hD (.inl rfl) () rfl (.c .z (.c .z .nil))
  · refine cSeq ?_
    refine cJoin (S := Bool) (X := Unit) (fun (s : Bool) (x : Unit) => [(20, .bool s), (4, .int .i64 0)]) (fun (s : Bool) (x : Unit) => [.blk b0_0 [.int .i64 a0.f_size.f_Rows, .int .i64 a0.f_size.f_Cols, v0_1, .int .i64 a0.f_cursor] 126, .own v0_1 80 k_api_Cell a0.f_cells, .blk b7 [.int .i64 o4.1.f_Start, .int .i64 o4.1.f_Len, vB o4.1.f_Attr] 193]) ?_ (fun s23 x24 => ?_)
    · refine cRegion ?_
      refine lRd (dMove (.t (.s .z))) rfl rfl ?_
      refine lRd (dMove (.t .z)) rfl rfl ?_
      refine lCase (fun h15 => ?_) (fun h15 => ?_)
      · refine lRdG rfl .z h15 (dFld fld_193_2 (by decide) (.t (.s (.s (.s (.s .z))))) rfl) rfl rfl ?_
        refine lRdG rfl (.s .z) h15 (dLoad (.s (.s .z)) agg_5 (.t .z) rfl) rfl rfl ?_
        refine lCallG rfl (.s (.s .z)) h15 fok_182 (.c (.t .z) .n) (attr_Numeric_c o4.1.f_Attr) .n rfl rfl fun o16 x17 h18 => ?_
        refine lRd (dPickT (.t (.s (.s (.s .z)))) h15 (.t .z)) rfl rfl ?_
        refine lRd (dMove (.t .z)) rfl rfl ?_
        refine lCase (fun h19 => ?_) (fun h19 => ?_)
        · refine lRdG rfl .z h19 (dMove (.t (.s (.s (.s (.s (.s (.s (.s (.s (.s (.s (.s .z))))))))))))) rfl rfl ?_
          refine lCallG rfl (.s .z) h19 fok_183 (.c (.t .z) .n) (typing_number_c a1) .n rfl rfl fun o20 x21 h22 => ?_
          refine lRdG rfl (.s (.s .z)) h19 (dNot (.t .z)) rfl rfl ?_
          refine lRd (dPickT (.t (.s (.s (.s .z)))) h19 (.t .z)) rfl rfl ?_
          refine lRd (dAssign (.t .z)) rfl rfl ?_
          refine lKeep (.k (.d (.d (.d (.d (.d (.d (.d (.d (.d (.d (.d (.d (.d (.d (.k .n)))))))))))))))) ?_
          refine lNil ?_
          exact xJoin (!o20) () (.c .z (.c (.s .z) .n)) (.c .z (.c .z (.c .z .nil)))
        · refine lPass rfl .z (nbT (Bool.eq_false_iff.mpr h19)) rfl ?_
          refine lPass rfl .z (nbT (Bool.eq_false_iff.mpr h19)) rfl ?_
          refine lPass rfl .z (nbT (Bool.eq_false_iff.mpr h19)) rfl ?_
          refine lRd (dPickF (.t .z) (Bool.eq_false_iff.mpr h19) (.c rfl)) rfl rfl ?_
          refine lRd (dAssign (.t .z)) rfl rfl ?_
          refine lKeep (.k (.d (.d (.d (.d (.d (.d (.d (.d (.d (.d (.d (.k .n))))))))))))) ?_
          refine lNil ?_
          exact xJoin false () (.c .z (.c (.s .z) .n)) (.c .z (.c .z (.c .z .nil)))
      · refine lPass rfl .z (nbT (Bool.eq_false_iff.mpr h15)) rfl ?_
        refine lPass rfl .z (nbT (Bool.eq_false_iff.mpr h15)) rfl ?_
        refine lPass rfl .z (nbT (Bool.eq_false_iff.mpr h15)) rfl ?_
        refine lRd (dPickF (.t .z) (Bool.eq_false_iff.mpr h15) (.c rfl)) rfl rfl ?_
        refine lRd (dMove (.t .z)) rfl rfl ?_
        refine lPass rfl .z (nbT rfl) rfl ?_
        refine lPass rfl .z (nbT rfl) rfl ?_
        refine lPass rfl .z (nbT rfl) rfl ?_
        refine lRd (dPickF (.t .z) rfl (.c rfl)) rfl rfl ?_
        refine lRd (dAssign (.t .z)) rfl rfl ?_
        refine lKeep (.k (.d (.d (.d (.d (.d (.d (.d (.d (.k .n)))))))))) ?_
        refine lNil ?_
        exact xJoin false () (.c .z (.c (.s .z) .n)) (.c .z (.c .z (.c .z .nil)))
    · refine xCode ?_
      refine cCondB (.t .z) (fun h25 => ?_) (fun h25 => ?_)
      · refine cSeq ?_
        refine cRegion ?_
        refine lRdK (dAssign (.c rfl)) (.k (.d (Keep.refl _))) rfl rfl ?_
        refine lKeep (.k .n) ?_
        refine lNil ?_
        refine xCode ?_
        refine cRet ?_
        exact rDone (rs := [.tmp 4]) rfl (.t .z .n) hD (.inl rfl) () rfl (.c .z (.c .z .nil))
      · refine cSkip ?_
        refine xBlock ?_
        refine xCode ?_
        refine cSeq ?_
        refine cRegion ?_
        refine lRdK (dAssign (.c rfl)) (.k (.d (Keep.refl _))) rfl rfl ?_
        refine lKeep (.k .n) ?_
        refine lNil ?_
        refine xCode ?_
        refine cRet ?_
        exact rDone (rs := [.tmp 4]) rfl (.t .z .n) hD (.inl rfl) () rfl (.c .z (.c .z .nil))

-- greenscreen/typing.row
def typing_row_l1 (K : Nat) (a0 : plane_Plane) : Nat → (Int × (List Int)) → Option ((List Int))
  | 0, _ => none
  | n + 1, s8 => (plane_Plane_Len_m a0).bind fun o13 => (if s8.1 < o13 then (app s8.2 ([s8.1] : List Int)).bind fun zs18 => (typing_row_l1 K a0 n) (w64 (s8.1 + 1), zs18) else some s8.2)
def typing_row_m (K : Nat) (a0 : plane_Plane) (a1 : Int) : Option ((List Int)) := (field_Of_m K a0 a1).bind fun o3 => (if (!o3.2) = true then (typing_row_l1 K a0 K (a1, [])).bind fun (s22 : (List Int)) => some s22 else none)
theorem typing_row_c (K : Nat) (a0 : plane_Plane) (a1 : Int) (b0_0 : Nat) (v0_1 : Value) : Con Tryz.prog 153 #[.pointer (some ⟨b0_0, 0, none⟩), .int .i64 a1] [.blk b0_0 [.int .i64 a0.f_size.f_Rows, .int .i64 a0.f_size.f_Cols, v0_1, .int .i64 a0.f_cursor] 126, .own v0_1 80 k_api_Cell a0.f_cells] (typing_row_m K a0 a1) (fun (o : (List Int)) (x : Value) => x) (fun (o : (List Int)) (x : Value) => [.blk b0_0 [.int .i64 a0.f_size.f_Rows, .int .i64 a0.f_size.f_Cols, v0_1, .int .i64 a0.f_cursor] 126, .own v0_1 80 k_api_Cell a0.f_cells, .own x 3 (kI .i64) o]) := by
  unfold typing_row_m
  refine con (args := [.pointer (some ⟨b0_0, 0, none⟩), .int .i64 a1]) Tryz.func153 rfl 47 rfl (.c (.c .n)) rfl fun c hD => ?_
  refine cSeq ?_
  refine cRegion ?_
  refine lCh (cBox (cs := [.int .i64 a1]) (.t (.s .z)) rfl) rfl rfl fun b1 => ?_
  refine lRd (dAssign (.c rfl)) rfl rfl ?_
  refine lKeep (.k (.k (.k .n))) ?_
  refine lNil ?_
  refine xCode ?_
  refine cSeq ?_
  refine cRegion ?_
  refine lCh (cAlloc (cs := [.slice none 0 0]) zer_160 rfl) rfl rfl fun b2 => ?_
  refine lNil ?_
  refine xCode ?_
  refine cSeq ?_
  refine cRegion ?_
  refine lRd (dMove (.t (.s (.s (.s .z))))) rfl rfl ?_
  refine lRd (dLoad (.s .z) agg_3 (.t (.s (.s (.s .z)))) rfl) rfl rfl ?_
  refine lCall fok_143 (.c (.t (.s .z)) (.c (.t .z) .n)) (field_Of_c K a0 a1 b0_0 v0_1) (.c (.s (.s .z)) (.c (.s (.s .z)) .n)) rfl rfl fun o3 x4 h5 => ?_
  refine lRd (dMove (.t .z)) rfl rfl ?_
  refine lRd (dExtract (.t .z) rfl) rfl rfl ?_
  refine lRd (dExtract (.t (.s .z)) rfl) rfl rfl ?_
  refine lCh (cAlloc (cs := [.int .i64 0, .int .i64 0, vB 0]) zer_193 rfl) rfl rfl fun b6 => ?_
  refine lChU (uStoreA (us := [.int .i64 o3.1.f_Start, .int .i64 o3.1.f_Len, vB o3.1.f_Attr]) (cs' := [.int .i64 o3.1.f_Start, .int .i64 o3.1.f_Len, vB o3.1.f_Attr]) .z siz_193 rfl (by intro u hu; simp only [List.mem_cons, List.not_mem_nil, or_false] at hu; rcases hu with rfl | rfl | rfl <;> first | rfl | assumption) rfl (by simp) (.t .z) (.t (.s (.s .z)))) ?_
  refine lRd (dAssign (.t (.s .z))) rfl rfl ?_
  refine lKeep (.k (.k (.d (.d (.d (.d (.d (.d (.k (.k (.k (.k .n)))))))))))) ?_
  refine lNil ?_
  refine xCode ?_
  refine cSeq ?_
  refine cSeq ?_
  refine cRegion ?_
  refine lRd (dMove (.t .z)) rfl rfl ?_
  refine lRd (dNot (.t .z)) rfl rfl ?_
  refine lKeep (.k (.d (.d (.k (.k (.k (.k (.k .n)))))))) ?_
  refine lNil ?_
  refine xCode ?_
  refine cCondB (.t .z) (fun h7 => ?_) (fun h7 => ?_)
  · refine cSeq ?_
    refine cSeq ?_
    refine cRegion ?_
    refine lRd (dLoad (.s (.s (.s (.s .z)))) agg_3 (.t (.s (.s (.s (.s .z))))) rfl) rfl rfl ?_
    refine lRd (dAssign (.t .z)) rfl rfl ?_
    refine lKeep (.k (.d (.d (.k (.k (.k (.k (.k .n)))))))) ?_
    refine lNil ?_
    refine xCode ?_
    refine cSt (ownNil 3 (kI .i64)) ?_
    refine cLoopB (S := Int × (List Int)) (X := Value) (S' := (List Int)) (X' := Value) (typing_row_l1 K a0) (fun (s : Int × (List Int)) (x : Value) => [(8, .int .i64 s.1), (6, .pointer (some ⟨b6, 0, none⟩)), (5, .pointer (some ⟨b2, 0, none⟩)), (4, .slice none 0 0), (3, .pointer (some ⟨b1, 0, none⟩)), (0, .pointer (some ⟨b0_0, 0, none⟩))]) (fun (s : Int × (List Int)) (x : Value) => [.blk b6 [.int .i64 o3.1.f_Start, .int .i64 o3.1.f_Len, vB o3.1.f_Attr] 193, .blk b0_0 [.int .i64 a0.f_size.f_Rows, .int .i64 a0.f_size.f_Cols, v0_1, .int .i64 a0.f_cursor] 126, .own v0_1 80 k_api_Cell a0.f_cells, .blk b2 [x] 160, .blk b1 [.int .i64 a1] 3, .own x 3 (kI .i64) s.2]) (fun (s : (List Int)) (x : Value) => [(6, .pointer (some ⟨b6, 0, none⟩)), (5, .pointer (some ⟨b2, 0, none⟩)), (4, .slice none 0 0), (3, .pointer (some ⟨b1, 0, none⟩)), (0, .pointer (some ⟨b0_0, 0, none⟩))]) (fun (s : (List Int)) (x : Value) => [.blk b0_0 [.int .i64 a0.f_size.f_Rows, .int .i64 a0.f_size.f_Cols, v0_1, .int .i64 a0.f_cursor] 126, .own v0_1 80 k_api_Cell a0.f_cells, .blk b6 [.int .i64 o3.1.f_Start, .int .i64 o3.1.f_Len, vB o3.1.f_Attr] 193, .blk b2 [x] 160, .blk b1 [.int .i64 a1] 3, .own x 3 (kI .i64) s]) K (a1, []) (.slice none 0 0) (.c .z (.c (.s .z) (.c (.s (.s .z)) (.c (.s (.s (.s .z))) (.c (.s (.s (.s (.s .z)))) (.c (.s (.s (.s (.s (.s .z))))) .n)))))) (.c (.s .z) (.c (.s .z) (.c (.s .z) (.c (.s .z) (.c (.s .z) (.c .z .nil)))))) (fun _ => rfl) (fun n10 I11 h12 s8 x9 => ?_) (fun s22 x23 => ?_)
    · rw [typing_row_l1]
      refine cSeq ?_
      refine cSeq ?_
      refine cRegion ?_
      refine lRd (dMove (.t .z)) rfl rfl ?_
      refine lRd (dMove (.t (.s (.s (.s (.s (.s (.s .z)))))))) rfl rfl ?_
      refine lCall fok_66 (.c (.t .z) .n) (plane_Plane_Len_c a0 b0_0 v0_1) (.c (.s .z) (.c (.s .z) .n)) rfl rfl fun o13 x14 h15 => ?_
      refine lRd (dLt (.t (.s (.s .z))) (.t .z)) rfl rfl ?_
      refine lNil ?_
      refine xCode ?_
      refine cCond (.t .z) (fun h16 => ?_) (fun h16 => ?_)
      · refine cSkip ?_
        refine xCode ?_
        refine cSeq ?_
        refine cBlock ?_
        refine cRegion ?_
        refine lRd (dLoad (.s (.s (.s .z))) agg_160 (.t (.s (.s (.s (.s (.s (.s .z))))))) rfl) rfl rfl ?_
        refine lRd (dMove (.t (.s (.s (.s (.s (.s .z))))))) rfl rfl ?_
        refine lCh (cBuildSlice (te := 3) (k := (kI .i64)) (css := [[.int .i64 s8.1]]) (xs := ([s8.1] : List Int)) und_160 siz_3 zer_3 rfl (by decide) rfl (.c (.t .z) .n) rfl (fun zs h => match zs, h with | [_], _ => rfl) rfl (fun _ _ _ => (.cons rfl .nil))) rfl rfl fun b17 => ?_
        refine lBind fun zs18 h19 => ?_
        refine lCh (cAppend (xs := s8.2) (ys := ([s8.1] : List Int)) (.s (.s (.s (.s (.s (.s .z)))))) (srcOwn .z) (.t (.s (.s .z))) (.t .z) und_160 und_160 rfl inf_3 rfl (by decide) h19) rfl rfl fun v20 => ?_
        refine lFact (oneOwn .z) fun h21 => ?_
        refine lChU (uStore (.s (.s (.s (.s (.s .z))))) siz_160 h21 .z (.t (.s (.s (.s (.s (.s (.s (.s (.s (.s (.s .z))))))))))) (.t .z)) ?_
        refine lNil ?_
        refine xBlock ?_
        refine xCode ?_
        refine cRegion ?_
        refine lRd (dMove (.t (.s (.s (.s (.s (.s (.s (.s (.s .z)))))))))) rfl rfl ?_
        refine lRd (dAddI (.t .z) (.c rfl)) rfl rfl ?_
        refine lRdK (dAssign (.t .z)) (.k (.k (.k (.k (.k (.k (.k (.k (.k (.k (.d (Keep.refl _)))))))))))) rfl rfl ?_
        refine lNil ?_
        exact xRound h12 (w64 (s8.1 + 1), zs18) v20 (.c .z (.c (.s (.s (.s (.s (.s (.s (.s (.s (.s (.s (.s .z))))))))))) (.c (.s (.s (.s (.s (.s (.s (.s (.s (.s (.s (.s (.s .z)))))))))))) (.c (.s (.s (.s (.s (.s (.s (.s (.s (.s (.s (.s (.s (.s .z))))))))))))) (.c (.s (.s (.s (.s (.s (.s (.s (.s (.s (.s (.s (.s (.s (.s .z)))))))))))))) (.c (.s (.s (.s (.s (.s (.s (.s (.s (.s (.s (.s (.s (.s (.s (.s .z))))))))))))))) .n)))))) (.c (.s (.s (.s (.s .z)))) (.c (.s (.s .z)) (.c (.s (.s .z)) (.c (.s (.s .z)) (.c (.s (.s .z)) (.c .z .nil))))))
      · refine cExit ?_
        refine xOver ?_
        refine xOverF ?_
        exact xJoin s8.2 x9 (.c (.s (.s (.s (.s (.s .z))))) (.c (.s (.s (.s (.s (.s (.s .z)))))) (.c (.s (.s (.s (.s (.s (.s (.s .z))))))) (.c (.s (.s (.s (.s (.s (.s (.s (.s .z)))))))) (.c (.s (.s (.s (.s (.s (.s (.s (.s (.s .z))))))))) .n))))) (.c .z (.c .z (.c .z (.c .z (.c .z (.c .z .nil))))))
    · refine xCode ?_
      refine cSeq ?_
      refine cRegion ?_
      refine lRd (dLoad (.s (.s (.s .z))) agg_160 (.t (.s .z)) rfl) rfl rfl ?_
      refine lRdK (dAssign (.t .z)) (.k (.k (.k (.d (Keep.refl _))))) rfl rfl ?_
      refine lKeep (.k (.d (.k (.k (.k (.k .n)))))) ?_
      refine lNil ?_
      refine xCode ?_
      refine cRet ?_
      exact rDone (rs := [.tmp 4]) rfl (.t .z .n) hD (.inl rfl) x23 rfl (.c .z (.c .z (.c (.s (.s (.s .z))) .nil)))
  · refine cSkip ?_
    refine xCode ?_
    refine cSeq ?_
    refine cSeq ?_
    exact cStuck

-- greenscreen/field.modify
def field_modify_m (a0 : plane_Plane) (a1 : Int) (a2 : Bool) : Option (plane_Plane) := (plane_Plane_At_m a0 a1).bind fun o1 => (attr_Modify_m o1.f_Byte a2).bind fun o5 => (plane_Plane_Set_m a0 a1 (⟨o5, o1.f_GE, o1.f_Start, o1.f_Light, o1.f_Color⟩ : api_Cell)).bind fun o8 => some o8.1
theorem field_modify_c (a0 : plane_Plane) (a1 : Int) (a2 : Bool) (b0_0 : Nat) (v0_1 : Value) : Con Tryz.prog 127 #[.pointer (some ⟨b0_0, 0, none⟩), .int .i64 a1, .bool a2] [.blk b0_0 [.int .i64 a0.f_size.f_Rows, .int .i64 a0.f_size.f_Cols, v0_1, .int .i64 a0.f_cursor] 126, .own v0_1 80 k_api_Cell a0.f_cells] (field_modify_m a0 a1 a2) (fun (o : plane_Plane) (x : Unit) => .tuple #[]) (fun (o : plane_Plane) (x : Unit) => [.blk b0_0 [.int .i64 o.f_size.f_Rows, .int .i64 o.f_size.f_Cols, v0_1, .int .i64 o.f_cursor] 126, .own v0_1 80 k_api_Cell o.f_cells]) := by
  unfold field_modify_m
  refine con (args := [.pointer (some ⟨b0_0, 0, none⟩), .int .i64 a1, .bool a2]) Tryz.func127 rfl 19 rfl (.c (.c (.c .n))) rfl fun c hD => ?_
  refine cSeq ?_
  refine cRegion ?_
  refine lRd (dMove (.t .z)) rfl rfl ?_
  refine lRd (dMove (.t (.s (.s .z)))) rfl rfl ?_
  refine lCall fok_36 (.c (.t (.s .z)) (.c (.t .z) .n)) (plane_Plane_At_c a0 a1 b0_0 v0_1) (.c .z (.c .z .n)) rfl rfl fun o1 x2 h3 => ?_
  refine lCh (cAlloc (cs := [vB 0, .bool false, .bool false, vB 0, vB 0]) zer_80 rfl) rfl rfl fun b4 => ?_
  refine lChU (uStoreA (us := [vB o1.f_Byte, .bool o1.f_GE, .bool o1.f_Start, vB o1.f_Light, vB o1.f_Color]) (cs' := [vB o1.f_Byte, .bool o1.f_GE, .bool o1.f_Start, vB o1.f_Light, vB o1.f_Color]) .z siz_80 rfl (by intro u hu; simp only [List.mem_cons, List.not_mem_nil, or_false] at hu; rcases hu with rfl | rfl | rfl | rfl | rfl <;> first | rfl | assumption) rfl (by simp) (.t .z) (.t (.s .z))) ?_
  refine lKeep (.k (.d (.d (.d (.k (.k (.k .n))))))) ?_
  refine lNil ?_
  refine xCode ?_
  refine cSeq ?_
  refine cRegion ?_
  refine lRd (dFld fld_80_0 (by decide) (.t .z) rfl) rfl rfl ?_
  refine lRd (dLoad .z agg_5 (.t .z) rfl) rfl rfl ?_
  refine lRd (dMove (.t (.s (.s (.s (.s (.s .z))))))) rfl rfl ?_
  refine lCall fok_134 (.c (.t (.s .z)) (.c (.t .z) .n)) (attr_Modify_c o1.f_Byte a2) .n rfl rfl fun o5 x6 h7 => ?_
  refine lRd (dFld fld_80_0 (by decide) (.t (.s (.s (.s (.s .z))))) rfl) rfl rfl ?_
  refine lChU (uStore .z siz_5 rfl .z (.t .z) (.t (.s .z))) ?_
  refine lKeep (.d (.d (.d (.d (.d (.k (.k (.k .n)))))))) ?_
  refine lNil ?_
  refine xCode ?_
  refine cRegion ?_
  refine lRd (dMove (.t (.s .z))) rfl rfl ?_
  refine lRd (dMove (.t (.s (.s (.s .z))))) rfl rfl ?_
  refine lRd (dLoadA (us := [vB o5, .bool o1.f_GE, .bool o1.f_Start, vB o1.f_Light, vB o1.f_Color]) .z agg_80 siz_80 rfl (.t (.s (.s .z))) rfl) rfl rfl ?_
  refine lCallN fok_132 (.c (.t (.s (.s .z))) (.c (.t (.s .z)) (.c (.t .z) .n))) (plane_Plane_Set_c a0 a1 (⟨o5, o1.f_GE, o1.f_Start, o1.f_Light, o1.f_Color⟩ : api_Cell) b0_0 v0_1) (.c (.s .z) (.c (.s .z) .n)) rfl fun o8 x9 h10 => ?_
  refine lKeep .n ?_
  refine lNil ?_
  exact xDone (rs := []) rfl .n hD () rfl (.c .z (.c .z .nil))

-- greenscreen/field.Mark
def field_Mark_m (K : Nat) (a0 : plane_Plane) (a1 : Int) : Option (plane_Plane × Bool) := (field_Before_m K a0 a1).bind fun o1 => (if o1 < 0 then some (a0, false) else (field_modify_m a0 o1 true).bind fun o5 => some (o5, true))
theorem field_Mark_c (K : Nat) (a0 : plane_Plane) (a1 : Int) (b0_0 : Nat) (v0_1 : Value) : Con Tryz.prog 150 #[.pointer (some ⟨b0_0, 0, none⟩), .int .i64 a1] [.blk b0_0 [.int .i64 a0.f_size.f_Rows, .int .i64 a0.f_size.f_Cols, v0_1, .int .i64 a0.f_cursor] 126, .own v0_1 80 k_api_Cell a0.f_cells] (field_Mark_m K a0 a1) (fun (o : plane_Plane × Bool) (x : Unit) => .bool o.2) (fun (o : plane_Plane × Bool) (x : Unit) => [.blk b0_0 [.int .i64 o.1.f_size.f_Rows, .int .i64 o.1.f_size.f_Cols, v0_1, .int .i64 o.1.f_cursor] 126, .own v0_1 80 k_api_Cell o.1.f_cells]) := by
  unfold field_Mark_m
  refine con (args := [.pointer (some ⟨b0_0, 0, none⟩), .int .i64 a1]) Tryz.func150 rfl 14 rfl (.c (.c .n)) rfl fun c hD => ?_
  refine cSeq ?_
  refine cRegion ?_
  refine lRd (dAssign (.c rfl)) rfl rfl ?_
  refine lNil ?_
  refine xCode ?_
  refine cSeq ?_
  refine cRegion ?_
  refine lRd (dMove (.t (.s .z))) rfl rfl ?_
  refine lRd (dMove (.t (.s (.s (.s .z))))) rfl rfl ?_
  refine lCall fok_181 (.c (.t (.s .z)) (.c (.t .z) .n)) (field_Before_c K a0 a1 b0_0 v0_1) (.c .z (.c .z .n)) rfl rfl fun o1 x2 h3 => ?_
  refine lRd (dAssign (.t .z)) rfl rfl ?_
  refine lKeep (.k (.d (.d (.d (.k (.k .n)))))) ?_
  refine lNil ?_
  refine xCode ?_
  refine cSeq ?_
  refine cSeq ?_
  refine cRegion ?_
  refine lRd (dMove (.t .z)) rfl rfl ?_
  refine lRd (dLt (.t .z) (.c rfl)) rfl rfl ?_
  refine lKeep (.k (.d (.k (.k (.k .n))))) ?_
  refine lNil ?_
  refine xCode ?_
  refine cCond (.t .z) (fun h4 => ?_) (fun h4 => ?_)
  · refine cSeq ?_
    refine cRegion ?_
    refine lRdK (dAssign (.c rfl)) (.k (.k (.d (Keep.refl _)))) rfl rfl ?_
    refine lKeep (.k (.d (.k (.k .n)))) ?_
    refine lNil ?_
    refine xCode ?_
    refine cRet ?_
    exact rDone (rs := [.tmp 4]) rfl (.t .z .n) hD (.inl rfl) () rfl (.c .z (.c .z .nil))
  · refine cSkip ?_
    refine xCode ?_
    refine cSeq ?_
    refine cRegion ?_
    refine lRd (dMove (.t (.s (.s (.s .z))))) rfl rfl ?_
    refine lRd (dMove (.t (.s (.s .z)))) rfl rfl ?_
    refine lCallN fok_127 (.c (.t (.s .z)) (.c (.t .z) (.c (.c rfl) .n))) (field_modify_c a0 o1 true b0_0 v0_1) (.c .z (.c .z .n)) rfl fun o5 x6 h7 => ?_
    refine lKeep (.d (.d (.d (.d (.k .n))))) ?_
    refine lNil ?_
    refine xCode ?_
    refine cSeq ?_
    refine cRegion ?_
    refine lRdK (dAssign (.c rfl)) (.d (Keep.refl _)) rfl rfl ?_
    refine lNil ?_
    refine xCode ?_
    refine cRet ?_
    exact rDone (rs := [.tmp 4]) rfl (.t .z .n) hD (.inl rfl) () rfl (.c .z (.c .z .nil))

-- greenscreen/attr.Skip
def attr_Skip_m (a0 : UInt8) : Option (Bool) := (attr_Protected_m a0).bind fun o1 => (if o1 = true then (attr_Numeric_m a0).bind fun o5 => some o5 else some false)
theorem attr_Skip_c (a0 : UInt8) : Con Tryz.prog 186 #[vB a0] [] (attr_Skip_m a0) (fun (o : Bool) (x : Unit) => .bool o) (fun (o : Bool) (x : Unit) => []) := by
  unfold attr_Skip_m
  refine con (args := [vB a0]) Tryz.func186 rfl 9 rfl (.c .n) rfl fun c hD => ?_
  refine cSeq ?_
  refine cRegion ?_
  refine lRd (dAssign (.c rfl)) rfl rfl ?_
  refine lNil ?_
  refine xCode ?_
  refine cSeq ?_
  refine cRegion ?_
  refine lRd (dMove (.t (.s .z))) rfl rfl ?_
  refine lCall fok_133 (.c (.t .z) .n) (attr_Protected_c a0) .n rfl rfl fun o1 x2 h3 => ?_
  refine lRd (dMove (.t .z)) rfl rfl ?_
  refine lCase (fun h4 => ?_) (fun h4 => ?_)
  · refine lRdG rfl .z h4 (dMove (.t (.s (.s (.s (.s .z)))))) rfl rfl ?_
    refine lCallG rfl (.s .z) h4 fok_182 (.c (.t .z) .n) (attr_Numeric_c a0) .n rfl rfl fun o5 x6 h7 => ?_
    refine lRd (dPickT (.t (.s (.s .z))) h4 (.t .z)) rfl rfl ?_
    refine lRdK (dAssign (.t .z)) (.k (.k (.k (.k (.k (.k (.d (Keep.refl _)))))))) rfl rfl ?_
    refine lKeep (.k .n) ?_
    refine lNil ?_
    refine xCode ?_
    refine cRet ?_
    exact rDone (rs := [.tmp 2]) rfl (.t .z .n) hD (.inl rfl) () rfl .nil
  · refine lPass rfl .z (nbT (Bool.eq_false_iff.mpr h4)) rfl ?_
    refine lPass rfl .z (nbT (Bool.eq_false_iff.mpr h4)) rfl ?_
    refine lRd (dPickF (.t .z) (Bool.eq_false_iff.mpr h4) (.c rfl)) rfl rfl ?_
    refine lRdK (dAssign (.t .z)) (.k (.k (.k (.k (.d (Keep.refl _)))))) rfl rfl ?_
    refine lKeep (.k .n) ?_
    refine lNil ?_
    refine xCode ?_
    refine cRet ?_
    exact rDone (rs := [.tmp 2]) rfl (.t .z .n) hD (.inl rfl) () rfl .nil

-- greenscreen/caret.On
def caret_On_m (K : Nat) (a0 : plane_Plane) : Option (plane_Plane × Int) := (plane_Plane_Cursor_m a0).bind fun o1 => (caret_by_m a0 o1 1).bind fun o4 => (caret_to_m a0 o4).bind fun o7 => (plane_Plane_At_m o7.1 o7.2).bind fun o10 => ((if o10.f_Start = true then (attr_Skip_m o10.f_Byte).bind fun o15 => some o15 else some false)).bind fun (s18 : Bool) => (if s18 = true then (caret_Tab_m K o7.1).bind fun o21 => some (o21.1, o21.2) else (if o10.f_Start = true then (caret_by_m o7.1 o7.2 1).bind fun o25 => (caret_to_m o7.1 o25).bind fun o28 => some (o28.1, o28.2) else some (o7.1, o7.2)))
theorem caret_On_c (K : Nat) (a0 : plane_Plane) (b0_0 : Nat) (v0_1 : Value) : Con Tryz.prog 151 #[.pointer (some ⟨b0_0, 0, none⟩)] [.blk b0_0 [.int .i64 a0.f_size.f_Rows, .int .i64 a0.f_size.f_Cols, v0_1, .int .i64 a0.f_cursor] 126, .own v0_1 80 k_api_Cell a0.f_cells] (caret_On_m K a0) (fun (o : plane_Plane × Int) (x : Unit) => .int .i64 o.2) (fun (o : plane_Plane × Int) (x : Unit) => [.blk b0_0 [.int .i64 o.1.f_size.f_Rows, .int .i64 o.1.f_size.f_Cols, v0_1, .int .i64 o.1.f_cursor] 126, .own v0_1 80 k_api_Cell o.1.f_cells]) := by
  unfold caret_On_m
  refine con (args := [.pointer (some ⟨b0_0, 0, none⟩)]) Tryz.func151 rfl 33 rfl (.c .n) rfl fun c hD => ?_
  refine cSeq ?_
  refine cRegion ?_
  refine lRd (dAssign (.c rfl)) rfl rfl ?_
  refine lNil ?_
  refine xCode ?_
  refine cSeq ?_
  refine cRegion ?_
  refine lRd (dMove (.t (.s .z))) rfl rfl ?_
  refine lRd (dMove (.t (.s (.s .z)))) rfl rfl ?_
  refine lRd (dMove (.t (.s (.s (.s .z))))) rfl rfl ?_
  refine lCall fok_68 (.c (.t .z) .n) (plane_Plane_Cursor_c a0 b0_0 v0_1) (.c .z (.c .z .n)) rfl rfl fun o1 x2 h3 => ?_
  refine lCall fok_145 (.c (.t (.s (.s .z))) (.c (.t .z) (.c (.c rfl) .n))) (caret_by_c a0 o1 1 b0_0 v0_1) (.c .z (.c .z .n)) rfl rfl fun o4 x5 h6 => ?_
  refine lCall fok_141 (.c (.t (.s (.s (.s (.s .z))))) (.c (.t .z) .n)) (caret_to_c a0 o4 b0_0 v0_1) (.c .z (.c .z .n)) rfl rfl fun o7 x8 h9 => ?_
  refine lRd (dAssign (.t .z)) rfl rfl ?_
  refine lKeep (.k (.d (.d (.d (.d (.d (.d (.k (.k .n))))))))) ?_
  refine lNil ?_
  refine xCode ?_
  refine cSeq ?_
  refine cRegion ?_
  refine lRd (dMove (.t (.s (.s .z)))) rfl rfl ?_
  refine lRd (dMove (.t (.s .z))) rfl rfl ?_
  refine lCall fok_36 (.c (.t (.s .z)) (.c (.t .z) .n)) (plane_Plane_At_c o7.1 o7.2 b0_0 v0_1) (.c .z (.c .z .n)) rfl rfl fun o10 x11 h12 => ?_
  refine lCh (cAlloc (cs := [vB 0, .bool false, .bool false, vB 0, vB 0]) zer_80 rfl) rfl rfl fun b13 => ?_
  refine lChU (uStoreA (us := [vB o10.f_Byte, .bool o10.f_GE, .bool o10.f_Start, vB o10.f_Light, vB o10.f_Color]) (cs' := [vB o10.f_Byte, .bool o10.f_GE, .bool o10.f_Start, vB o10.f_Light, vB o10.f_Color]) .z siz_80 rfl (by intro u hu; simp only [List.mem_cons, List.not_mem_nil, or_false] at hu; rcases hu with rfl | rfl | rfl | rfl | rfl <;> first | rfl | assumption) rfl (by simp) (.t .z) (.t (.s .z))) ?_
  refine lKeep (.k (.d (.d (.d (.k (.k (.k .n))))))) ?_
  refine lNil ?_
  refine xCode ?_
  refine cSeq ?_
  refine cBlock ?_
  refine cSeq ?_
  refine cJoin (S := Bool) (X := Unit) (fun (s : Bool) (x : Unit) => [(14, .bool s), (4, .pointer (some ⟨b13, 0, none⟩)), (3, .int .i64 o7.2), (2, .int .i64 0), (0, .pointer (some ⟨b0_0, 0, none⟩))]) (fun (s : Bool) (x : Unit) => [.blk b13 [vB o10.f_Byte, .bool o10.f_GE, .bool o10.f_Start, vB o10.f_Light, vB o10.f_Color] 80, .blk b0_0 [.int .i64 o7.1.f_size.f_Rows, .int .i64 o7.1.f_size.f_Cols, v0_1, .int .i64 o7.1.f_cursor] 126, .own v0_1 80 k_api_Cell o7.1.f_cells]) ?_ (fun s18 x19 => ?_)
  · refine cRegion ?_
    refine lRd (dFld fld_80_2 (by decide) (.t .z) rfl) rfl rfl ?_
    refine lRd (dLoad .z agg_4 (.t .z) rfl) rfl rfl ?_
    refine lRd (dMove (.t .z)) rfl rfl ?_
    refine lCase (fun h14 => ?_) (fun h14 => ?_)
    · refine lRdG rfl .z h14 (dFld fld_80_0 (by decide) (.t (.s (.s (.s .z)))) rfl) rfl rfl ?_
      refine lRdG rfl (.s .z) h14 (dLoad .z agg_5 (.t .z) rfl) rfl rfl ?_
      refine lCallG rfl (.s (.s .z)) h14 fok_186 (.c (.t .z) .n) (attr_Skip_c o10.f_Byte) .n rfl rfl fun o15 x16 h17 => ?_
      refine lRd (dPickT (.t (.s (.s (.s .z)))) h14 (.t .z)) rfl rfl ?_
      refine lRd (dAssign (.t .z)) rfl rfl ?_
      refine lKeep (.k (.d (.d (.d (.d (.d (.d (.d (.k (.k (.k (.k .n)))))))))))) ?_
      refine lNil ?_
      exact xJoin o15 () (.c .z (.c (.s .z) (.c (.s (.s .z)) (.c (.s (.s (.s .z))) (.c (.s (.s (.s (.s .z)))) .n))))) (.c .z (.c .z (.c .z .nil)))
    · refine lPass rfl .z (nbT (Bool.eq_false_iff.mpr h14)) rfl ?_
      refine lPass rfl .z (nbT (Bool.eq_false_iff.mpr h14)) rfl ?_
      refine lPass rfl .z (nbT (Bool.eq_false_iff.mpr h14)) rfl ?_
      refine lRd (dPickF (.t .z) (Bool.eq_false_iff.mpr h14) (.c rfl)) rfl rfl ?_
      refine lRd (dAssign (.t .z)) rfl rfl ?_
      refine lKeep (.k (.d (.d (.d (.d (.k (.k (.k (.k .n))))))))) ?_
      refine lNil ?_
      exact xJoin false () (.c .z (.c (.s .z) (.c (.s (.s .z)) (.c (.s (.s (.s .z))) (.c (.s (.s (.s (.s .z)))) .n))))) (.c .z (.c .z (.c .z .nil)))
  · refine xCode ?_
    refine cCondB (.t .z) (fun h20 => ?_) (fun h20 => ?_)
    · refine cSeq ?_
      refine cRegion ?_
      refine lRd (dMove (.t (.s (.s (.s (.s .z)))))) rfl rfl ?_
      refine lCall fok_95 (.c (.t .z) .n) (caret_Tab_c K o7.1 b0_0 v0_1) (.c (.s .z) (.c (.s .z) .n)) rfl rfl fun o21 x22 h23 => ?_
      refine lRdK (dAssign (.t .z)) (.k (.k (.k (.k (.k (.d (Keep.refl _))))))) rfl rfl ?_
      refine lKeep (.k (.d (.d (.d (.d (.k .n)))))) ?_
      refine lNil ?_
      refine xCode ?_
      refine cRet ?_
      exact rDone (rs := [.tmp 2]) rfl (.t .z .n) hD (.inl rfl) () rfl (.c .z (.c .z .nil))
    · refine cSeq ?_
      refine cRegion ?_
      refine lRd (dFld fld_80_2 (by decide) (.t (.s .z)) rfl) rfl rfl ?_
      refine lRd (dLoad .z agg_4 (.t .z) rfl) rfl rfl ?_
      refine lRd (dAssign (.t .z)) rfl rfl ?_
      refine lKeep (.k (.d (.d (.d (.d (.k (.k (.k .n)))))))) ?_
      refine lNil ?_
      refine xCode ?_
      refine cCondB (.t .z) (fun h24 => ?_) (fun h24 => ?_)
      · refine cSeq ?_
        refine cRegion ?_
        refine lRd (dMove (.t (.s (.s (.s .z))))) rfl rfl ?_
        refine lRd (dMove (.t (.s (.s (.s (.s .z)))))) rfl rfl ?_
        refine lRd (dMove (.t (.s (.s (.s .z))))) rfl rfl ?_
        refine lCall fok_145 (.c (.t (.s .z)) (.c (.t .z) (.c (.c rfl) .n))) (caret_by_c o7.1 o7.2 1 b0_0 v0_1) (.c (.s .z) (.c (.s .z) .n)) rfl rfl fun o25 x26 h27 => ?_
        refine lCall fok_141 (.c (.t (.s (.s (.s .z)))) (.c (.t .z) .n)) (caret_to_c o7.1 o25 b0_0 v0_1) (.c .z (.c .z .n)) rfl rfl fun o28 x29 h30 => ?_
        refine lRdK (dAssign (.t .z)) (.k (.k (.k (.k (.k (.k (.k (.d (Keep.refl _))))))))) rfl rfl ?_
        refine lKeep (.k (.d (.d (.d (.d (.d (.d (.k .n)))))))) ?_
        refine lNil ?_
        refine xCode ?_
        refine cRet ?_
        exact rDone (rs := [.tmp 2]) rfl (.t .z .n) hD (.inl rfl) () rfl (.c .z (.c .z .nil))
      · refine cSkip ?_
        refine xBlock ?_
        refine xCode ?_
        refine cSeq ?_
        refine cRegion ?_
        refine lRd (dMove (.t (.s .z))) rfl rfl ?_
        refine lRdK (dAssign (.t .z)) (.k (.k (.k (.d (Keep.refl _))))) rfl rfl ?_
        refine lKeep (.k .n) ?_
        refine lNil ?_
        refine xCode ?_
        refine cRet ?_
        exact rDone (rs := [.tmp 2]) rfl (.t .z .n) hD (.inl rfl) () rfl (.c (.s .z) (.c (.s .z) .nil))

-- greenscreen/typing.Put
def typing_Put_m (K : Nat) (a0 : plane_Plane) (a1 : UInt8) (a2 : Bool) : Option (plane_Plane × Int) := (plane_Plane_Cursor_m a0).bind fun o1 => (typing_may_m K a0 a1).bind fun o4 => (if o4 ≠ 0 then some (a0, o4) else (plane_Plane_At_m a0 o1).bind fun o8 => (if a2 = true then none else (plane_Plane_Set_m a0 o1 (⟨a1, false, false, o8.f_Light, o8.f_Color⟩ : api_Cell)).bind fun o13 => (field_Mark_m K o13.1 o1).bind fun o16 => (caret_On_m K o16.1).bind fun o19 => some (o19.1, 0)))
theorem typing_Put_c (K : Nat) (a0 : plane_Plane) (a1 : UInt8) (a2 : Bool) (b0_0 : Nat) (v0_1 : Value) : Con Tryz.prog 100 #[.pointer (some ⟨b0_0, 0, none⟩), vB a1, .bool a2] [.blk b0_0 [.int .i64 a0.f_size.f_Rows, .int .i64 a0.f_size.f_Cols, v0_1, .int .i64 a0.f_cursor] 126, .own v0_1 80 k_api_Cell a0.f_cells] (typing_Put_m K a0 a1 a2) (fun (o : plane_Plane × Int) (x : Unit) => .int .i64 o.2) (fun (o : plane_Plane × Int) (x : Unit) => [.blk b0_0 [.int .i64 o.1.f_size.f_Rows, .int .i64 o.1.f_size.f_Cols, v0_1, .int .i64 o.1.f_cursor] 126, .own v0_1 80 k_api_Cell o.1.f_cells]) := by
  unfold typing_Put_m
  refine con (args := [.pointer (some ⟨b0_0, 0, none⟩), vB a1, .bool a2]) Tryz.func100 rfl 42 rfl (.c (.c (.c .n))) rfl fun c hD => ?_
  refine cSeq ?_
  refine cRegion ?_
  refine lRd (dAssign (.c rfl)) rfl rfl ?_
  refine lNil ?_
  refine xCode ?_
  refine cSeq ?_
  refine cRegion ?_
  refine lRd (dMove (.t (.s .z))) rfl rfl ?_
  refine lCall fok_68 (.c (.t .z) .n) (plane_Plane_Cursor_c a0 b0_0 v0_1) (.c .z (.c .z .n)) rfl rfl fun o1 x2 h3 => ?_
  refine lRd (dAssign (.t .z)) rfl rfl ?_
  refine lKeep (.k (.d (.d (.k (.k (.k (.k .n))))))) ?_
  refine lNil ?_
  refine xCode ?_
  refine cSeq ?_
  refine cSeq ?_
  refine cRegion ?_
  refine lRd (dMove (.t (.s (.s .z)))) rfl rfl ?_
  refine lRd (dMove (.t (.s (.s (.s (.s .z)))))) rfl rfl ?_
  refine lCall fok_148 (.c (.t (.s .z)) (.c (.t .z) .n)) (typing_may_c K a0 a1 b0_0 v0_1) (.c .z (.c .z .n)) rfl rfl fun o4 x5 h6 => ?_
  refine lRd (dAssign (.t .z)) rfl rfl ?_
  refine lKeep (.k (.d (.d (.d (.k (.k (.k (.k (.k .n))))))))) ?_
  refine lNil ?_
  refine xCode ?_
  refine cSeq ?_
  refine cRegion ?_
  refine lRd (dMove (.t .z)) rfl rfl ?_
  refine lRd (dNe (.t .z) (.c rfl)) rfl rfl ?_
  refine lKeep (.k (.d (.k (.k (.k (.k (.k (.k .n)))))))) ?_
  refine lNil ?_
  refine xCode ?_
  refine cCond (.t .z) (fun h7 => ?_) (fun h7 => ?_)
  · refine cSeq ?_
    refine cRegion ?_
    refine lRd (dMove (.t (.s .z))) rfl rfl ?_
    refine lRdK (dAssign (.t .z)) (.k (.k (.k (.k (.d (Keep.refl _)))))) rfl rfl ?_
    refine lKeep (.k (.d (.d (.d (.k (.k (.k (.k .n)))))))) ?_
    refine lNil ?_
    refine xCode ?_
    refine cRet ?_
    exact rDone (rs := [.tmp 6]) rfl (.t .z .n) hD (.inl rfl) () rfl (.c .z (.c .z .nil))
  · refine cSkip ?_
    refine xCode ?_
    refine cSeq ?_
    refine cRegion ?_
    refine lRd (dMove (.t (.s (.s (.s (.s .z)))))) rfl rfl ?_
    refine lRd (dMove (.t (.s (.s (.s .z))))) rfl rfl ?_
    refine lCall fok_36 (.c (.t (.s .z)) (.c (.t .z) .n)) (plane_Plane_At_c a0 o1 b0_0 v0_1) (.c .z (.c .z .n)) rfl rfl fun o8 x9 h10 => ?_
    refine lCh (cAlloc (cs := [vB 0, .bool false, .bool false, vB 0, vB 0]) zer_80 rfl) rfl rfl fun b11 => ?_
    refine lChU (uStoreA (us := [vB o8.f_Byte, .bool o8.f_GE, .bool o8.f_Start, vB o8.f_Light, vB o8.f_Color]) (cs' := [vB o8.f_Byte, .bool o8.f_GE, .bool o8.f_Start, vB o8.f_Light, vB o8.f_Color]) .z siz_80 rfl (by intro u hu; simp only [List.mem_cons, List.not_mem_nil, or_false] at hu; rcases hu with rfl | rfl | rfl | rfl | rfl <;> first | rfl | assumption) rfl (by simp) (.t .z) (.t (.s .z))) ?_
    refine lKeep (.k (.d (.d (.d (.d (.d (.k (.k (.k (.k (.k .n))))))))))) ?_
    refine lNil ?_
    refine xCode ?_
    refine cSeq ?_
    refine cSeq ?_
    refine cRegion ?_
    refine lRd (dMove (.t (.s (.s (.s (.s (.s .z))))))) rfl rfl ?_
    refine lKeep (.k (.k (.k (.k (.k (.k .n)))))) ?_
    refine lNil ?_
    refine xCode ?_
    refine cCondB (.t .z) (fun h12 => ?_) (fun h12 => ?_)
    · refine cSeq ?_
      exact cStuck
    · refine cSkip ?_
      refine xCode ?_
      refine cSeq ?_
      refine cRegion ?_
      refine lRd (dMove (.t (.s (.s (.s (.s .z)))))) rfl rfl ?_
      refine lRd (dMove (.t (.s (.s (.s .z))))) rfl rfl ?_
      refine lRd (dMove (.t (.s (.s (.s (.s (.s (.s (.s .z))))))))) rfl rfl ?_
      refine lRd (dFld fld_80_3 (by decide) (.t (.s (.s (.s (.s .z))))) rfl) rfl rfl ?_
      refine lRd (dLoad .z agg_5 (.t .z) rfl) rfl rfl ?_
      refine lRd (dFld fld_80_4 (by decide) (.t (.s (.s (.s (.s (.s (.s .z))))))) rfl) rfl rfl ?_
      refine lRd (dLoad .z agg_5 (.t .z) rfl) rfl rfl ?_
      refine lRd (dBuild (cs := [vB a1, .bool false, .bool false, vB o8.f_Light, vB o8.f_Color]) zer_80 rfl plc_80 (.c (.t (.s (.s (.s (.s .z))))) (.c (.t (.s (.s .z))) (.c (.t .z) .n))) rfl) rfl rfl ?_
      refine lCallN fok_132 (.c (.t (.s (.s (.s (.s (.s (.s (.s .z)))))))) (.c (.t (.s (.s (.s (.s (.s (.s .z))))))) (.c (.t .z) .n))) (plane_Plane_Set_c a0 o1 (⟨a1, false, false, o8.f_Light, o8.f_Color⟩ : api_Cell) b0_0 v0_1) (.c (.s .z) (.c (.s .z) .n)) rfl fun o13 x14 h15 => ?_
      refine lKeep (.d (.d (.d (.d (.d (.d (.d (.d (.d (.d (.k (.k (.k .n))))))))))))) ?_
      refine lNil ?_
      refine xCode ?_
      refine cSeq ?_
      refine cRegion ?_
      refine lRd (dMove (.t (.s (.s .z)))) rfl rfl ?_
      refine lRd (dMove (.t (.s .z))) rfl rfl ?_
      refine lCallN fok_150 (.c (.t (.s .z)) (.c (.t .z) .n)) (field_Mark_c K o13.1 o1 b0_0 v0_1) (.c .z (.c .z .n)) rfl fun o16 x17 h18 => ?_
      refine lKeep (.d (.d (.d (.k (.k .n))))) ?_
      refine lNil ?_
      refine xCode ?_
      refine cSeq ?_
      refine cRegion ?_
      refine lRd (dMove (.t (.s .z))) rfl rfl ?_
      refine lCallN fok_151 (.c (.t .z) .n) (caret_On_c K o16.1 b0_0 v0_1) (.c .z (.c .z .n)) rfl fun o19 x20 h21 => ?_
      refine lKeep (.d (.k .n)) ?_
      refine lNil ?_
      refine xCode ?_
      refine cSeq ?_
      refine cRegion ?_
      refine lRdK (dAssign (.c rfl)) (.d (Keep.refl _)) rfl rfl ?_
      refine lNil ?_
      refine xCode ?_
      refine cRet ?_
      exact rDone (rs := [.tmp 6]) rfl (.t .z .n) hD (.inl rfl) () rfl (.c .z (.c .z .nil))

-- greenscreen/wipe.Rest
def wipe_Rest_m (K : Nat) (a0 : plane_Plane) (a1 : Int) : Option (Int × Bool) := (field_Open_m K a0 a1).bind fun o3 => (if (!o3) = true then some (0, false) else (field_Of_m K a0 a1).bind fun o7 => (if (!o7.2) = true then (plane_Plane_Len_m a0).bind fun o12 => none else none))
theorem wipe_Rest_c (K : Nat) (a0 : plane_Plane) (a1 : Int) (b0_0 : Nat) (v0_1 : Value) : Con Tryz.prog 152 #[.pointer (some ⟨b0_0, 0, none⟩), .int .i64 a1] [.blk b0_0 [.int .i64 a0.f_size.f_Rows, .int .i64 a0.f_size.f_Cols, v0_1, .int .i64 a0.f_cursor] 126, .own v0_1 80 k_api_Cell a0.f_cells] (wipe_Rest_m K a0 a1) (fun (o : Int × Bool) (x : Unit) => .tuple #[.int .i64 o.1, .bool o.2]) (fun (o : Int × Bool) (x : Unit) => [.blk b0_0 [.int .i64 a0.f_size.f_Rows, .int .i64 a0.f_size.f_Cols, v0_1, .int .i64 a0.f_cursor] 126, .own v0_1 80 k_api_Cell a0.f_cells]) := by
  unfold wipe_Rest_m
  refine con (args := [.pointer (some ⟨b0_0, 0, none⟩), .int .i64 a1]) Tryz.func152 rfl 53 rfl (.c (.c .n)) rfl fun c hD => ?_
  refine cSeq ?_
  refine cRegion ?_
  refine lCh (cBox (cs := [.pointer (some ⟨b0_0, 0, none⟩)]) (.t .z) rfl) rfl rfl fun b1 => ?_
  refine lCh (cBox (cs := [.int .i64 a1]) (.t (.s (.s .z))) rfl) rfl rfl fun b2 => ?_
  refine lRd (dAssign (.c rfl)) rfl rfl ?_
  refine lRd (dAssign (.c rfl)) rfl rfl ?_
  refine lKeep (.k (.k (.k (.k .n)))) ?_
  refine lNil ?_
  refine xCode ?_
  refine cSeq ?_
  refine cSeq ?_
  refine cRegion ?_
  refine lRd (dLoad (.s .z) agg_70 (.t (.s (.s (.s .z)))) rfl) rfl rfl ?_
  refine lRd (dLoad .z agg_3 (.t (.s (.s (.s .z)))) rfl) rfl rfl ?_
  refine lCall fok_131 (.c (.t (.s .z)) (.c (.t .z) .n)) (field_Open_c K a0 a1 b0_0 v0_1) (.c (.s (.s .z)) (.c (.s (.s .z)) .n)) rfl rfl fun o3 x4 h5 => ?_
  refine lRd (dNot (.t .z)) rfl rfl ?_
  refine lKeep (.k (.d (.d (.d (.k (.k (.k (.k .n)))))))) ?_
  refine lNil ?_
  refine xCode ?_
  refine cCondB (.t .z) (fun h6 => ?_) (fun h6 => ?_)
  · refine cSeq ?_
    refine cRegion ?_
    refine lRdK (dAssign (.c rfl)) (.k (.k (.d (Keep.refl _)))) rfl rfl ?_
    refine lRdK (dAssign (.c rfl)) (.k (.k (.d (Keep.refl _)))) rfl rfl ?_
    refine lKeep (.k (.k (.d (.k (.k .n))))) ?_
    refine lNil ?_
    refine xCode ?_
    refine cRet ?_
    exact rDone (rs := [.tmp 4, .tmp 5]) rfl (.t (.s .z) (.t .z .n)) hD (.inl rfl) () rfl (.c .z (.c .z .nil))
  · refine cSkip ?_
    refine xCode ?_
    refine cSeq ?_
    refine cRegion ?_
    refine lRd (dLoad (.s (.s (.s .z))) agg_70 (.t (.s (.s (.s (.s .z))))) rfl) rfl rfl ?_
    refine lRd (dLoad (.s (.s .z)) agg_3 (.t (.s (.s (.s (.s .z))))) rfl) rfl rfl ?_
    refine lCall fok_143 (.c (.t (.s .z)) (.c (.t .z) .n)) (field_Of_c K a0 a1 b0_0 v0_1) (.c .z (.c .z .n)) rfl rfl fun o7 x8 h9 => ?_
    refine lRd (dMove (.t .z)) rfl rfl ?_
    refine lRd (dExtract (.t .z) rfl) rfl rfl ?_
    refine lRd (dExtract (.t (.s .z)) rfl) rfl rfl ?_
    refine lCh (cAlloc (cs := [.int .i64 0, .int .i64 0, vB 0]) zer_193 rfl) rfl rfl fun b10 => ?_
    refine lChU (uStoreA (us := [.int .i64 o7.1.f_Start, .int .i64 o7.1.f_Len, vB o7.1.f_Attr]) (cs' := [.int .i64 o7.1.f_Start, .int .i64 o7.1.f_Len, vB o7.1.f_Attr]) .z siz_193 rfl (by intro u hu; simp only [List.mem_cons, List.not_mem_nil, or_false] at hu; rcases hu with rfl | rfl | rfl <;> first | rfl | assumption) rfl (by simp) (.t .z) (.t (.s (.s .z)))) ?_
    refine lRd (dAssign (.t (.s .z))) rfl rfl ?_
    refine lKeep (.k (.k (.d (.d (.d (.d (.d (.d (.d (.k (.k (.k (.k .n))))))))))))) ?_
    refine lNil ?_
    refine xCode ?_
    refine cSeq ?_
    refine cSeq ?_
    refine cRegion ?_
    refine lRd (dMove (.t .z)) rfl rfl ?_
    refine lRd (dNot (.t .z)) rfl rfl ?_
    refine lKeep (.k (.d (.d (.k (.k (.k (.k (.k .n)))))))) ?_
    refine lNil ?_
    refine xCode ?_
    refine cCondB (.t .z) (fun h11 => ?_) (fun h11 => ?_)
    · refine cSeq ?_
      refine cRegionM [] [(0, .early), (1, .early), (2, .early), (3, .early), (4, .early)] mixed (by kernel_rfl) (.c .z (.c .z (.c .z (.c .z (.c .z .nil))))) (.c (.c (.c (.c (.c .n))))) ?_
      refine mRd rfl rfl (fun _ _ _ => dLoad (.s (.s (.s (.s .z)))) agg_70 (.t (.s (.s (.s (.s (.s .z)))))) rfl) rfl rfl ?_
      refine mCallQ rfl rfl fok_66 (.c (.t .z) .n) (plane_Plane_Len_c a0 b0_0 v0_1) (.c (.s .z) (.c (.s .z) .n)) (fun _ _ => rfl) (fun _ _ => (.c (.s (.s .z)) (.c .z (.c .z (.c .z (.c .z .nil)))))) rfl rfl fun o12 h14 => ?_
      refine mRd rfl rfl (fun _ _ _ => dLoad (.s (.s (.s .z))) agg_3 (.t (.s (.s (.s (.s (.s (.s .z))))))) rfl) rfl rfl ?_
      refine mRd rfl rfl (fun _ _ _ => dSubI (.t (.s .z)) (.t .z)) rfl rfl ?_
      refine mRd rfl rfl (fun _ _ _ => dAssign (.t .z)) rfl rfl ?_
      refine mKeep (.k (.d (.d (.d (.d (.d (.k (.k (.k (.k (.k .n))))))))))) ?_
      refine mNil ?_
      refine xCode ?_
      refine cSeq ?_
      exact cStuck
    · refine cSkip ?_
      refine xCode ?_
      refine cSeq ?_
      refine cRegion ?_
      refine lCh (cAlloc (cs := [.int .i64 0]) zer_3 rfl) rfl rfl fun b15 => ?_
      refine lChU (uStore .z siz_3 rfl .z (.t .z) (.c rfl)) ?_
      refine lKeep (.k (.d (.k (.k (.k (.k (.k .n))))))) ?_
      refine lNil ?_
      refine xCode ?_
      refine cSeq ?_
      refine cSeq ?_
      exact cStuck

-- greenscreen/typing.End
def typing_End_m (K : Nat) (a0 : plane_Plane) : Option (Int) := (plane_Plane_Cursor_m a0).bind fun o1 => (wipe_Rest_m K a0 o1).bind fun o4 => (if (!o4.2) = true then some 41 else some 0)
theorem typing_End_c (K : Nat) (a0 : plane_Plane) (b0_0 : Nat) (v0_1 : Value) : Con Tryz.prog 101 #[.pointer (some ⟨b0_0, 0, none⟩)] [.blk b0_0 [.int .i64 a0.f_size.f_Rows, .int .i64 a0.f_size.f_Cols, v0_1, .int .i64 a0.f_cursor] 126, .own v0_1 80 k_api_Cell a0.f_cells] (typing_End_m K a0) (fun (o : Int) (x : Unit) => .int .i64 o) (fun (o : Int) (x : Unit) => [.blk b0_0 [.int .i64 a0.f_size.f_Rows, .int .i64 a0.f_size.f_Cols, v0_1, .int .i64 a0.f_cursor] 126, .own v0_1 80 k_api_Cell a0.f_cells]) := by
  unfold typing_End_m
  refine con (args := [.pointer (some ⟨b0_0, 0, none⟩)]) Tryz.func101 rfl 14 rfl (.c .n) rfl fun c hD => ?_
  refine cSeq ?_
  refine cRegion ?_
  refine lRd (dAssign (.c rfl)) rfl rfl ?_
  refine lNil ?_
  refine xCode ?_
  refine cSeq ?_
  refine cSeq ?_
  refine cRegion ?_
  refine lRd (dMove (.t (.s .z))) rfl rfl ?_
  refine lRd (dMove (.t (.s (.s .z)))) rfl rfl ?_
  refine lCall fok_68 (.c (.t .z) .n) (plane_Plane_Cursor_c a0 b0_0 v0_1) (.c .z (.c .z .n)) rfl rfl fun o1 x2 h3 => ?_
  refine lCall fok_152 (.c (.t (.s (.s .z))) (.c (.t .z) .n)) (wipe_Rest_c K a0 o1 b0_0 v0_1) (.c .z (.c .z .n)) rfl rfl fun o4 x5 h6 => ?_
  refine lRd (dMove (.t .z)) rfl rfl ?_
  refine lRd (dExtract (.t .z) rfl) rfl rfl ?_
  refine lRd (dExtract (.t (.s .z)) rfl) rfl rfl ?_
  refine lRdN (dAssign (.t (.s .z))) rfl ?_
  refine lRd (dAssign (.t .z)) rfl rfl ?_
  refine lKeep (.k (.d (.d (.d (.d (.d (.d (.d (.k .n))))))))) ?_
  refine lNil ?_
  refine xCode ?_
  refine cSeq ?_
  refine cRegion ?_
  refine lRd (dMove (.t .z)) rfl rfl ?_
  refine lRd (dNot (.t .z)) rfl rfl ?_
  refine lKeep (.k (.d (.d (.k .n)))) ?_
  refine lNil ?_
  refine xCode ?_
  refine cCondB (.t .z) (fun h7 => ?_) (fun h7 => ?_)
  · refine cSeq ?_
    refine cRegion ?_
    refine lRdK (dAssign (.c rfl)) (.k (.d (Keep.refl _))) rfl rfl ?_
    refine lKeep (.k .n) ?_
    refine lNil ?_
    refine xCode ?_
    refine cRet ?_
    exact rDone (rs := [.tmp 2]) rfl (.t .z .n) hD (.inl rfl) () rfl (.c .z (.c .z .nil))
  · refine cSkip ?_
    refine xCode ?_
    refine cSeq ?_
    refine cRegion ?_
    refine lRdK (dAssign (.c rfl)) (.k (.d (Keep.refl _))) rfl rfl ?_
    refine lKeep (.k .n) ?_
    refine lNil ?_
    refine xCode ?_
    refine cRet ?_
    exact rDone (rs := [.tmp 2]) rfl (.t .z .n) hD (.inl rfl) () rfl (.c .z (.c .z .nil))

-- greenscreen/typing.Delete
def typing_Delete_l1 (K : Nat) (o8 : ((List Int))) : Nat → (Int × Int × Int × (List api_Cell) × Int) → Option (Int × Int × (List api_Cell) × Int)
  | 0, _ => none
  | n + 1, s11 => (if s11.1 < (w64 ((o8.length : Int) - 1)) then (ix o8 s11.1).bind fun y17 => (ix o8 (w64 (s11.1 + 1))).bind fun y20 => (plane_Plane_At_m (⟨(⟨s11.2.1, s11.2.2.1⟩ : api_Size), s11.2.2.2.1, s11.2.2.2.2⟩ : plane_Plane) y20).bind fun o23 => (plane_Plane_Set_m (⟨(⟨s11.2.1, s11.2.2.1⟩ : api_Size), s11.2.2.2.1, s11.2.2.2.2⟩ : plane_Plane) y17 o23).bind fun o26 => (typing_Delete_l1 K o8 n) (w64 (s11.1 + 1), o26.1.f_size.f_Rows, o26.1.f_size.f_Cols, o26.1.f_cells, o26.1.f_cursor) else some (s11.2.1, s11.2.2.1, s11.2.2.2.1, s11.2.2.2.2))
def typing_Delete_m (K : Nat) (a0 : plane_Plane) : Option (plane_Plane × Int) := (plane_Plane_Cursor_m a0).bind fun o1 => (field_Open_m K a0 o1).bind fun o4 => (if (!o4) = true then some (a0, 41) else (typing_row_m K a0 o1).bind fun o8 => (typing_Delete_l1 K o8 K (0, a0.f_size.f_Rows, a0.f_size.f_Cols, a0.f_cells, a0.f_cursor)).bind fun (s29 : Int × Int × (List api_Cell) × Int) => (ix o8 (w64 ((o8.length : Int) - 1))).bind fun y31 => (plane_Plane_Set_m (⟨(⟨s29.1, s29.2.1⟩ : api_Size), s29.2.2.1, s29.2.2.2⟩ : plane_Plane) y31 (⟨0, false, false, 0, 0⟩ : api_Cell)).bind fun o34 => (field_Mark_m K o34.1 o1).bind fun o37 => some (o37.1, 0))
theorem typing_Delete_c (K : Nat) (a0 : plane_Plane) (b0_0 : Nat) (v0_1 : Value) : Con Tryz.prog 102 #[.pointer (some ⟨b0_0, 0, none⟩)] [.blk b0_0 [.int .i64 a0.f_size.f_Rows, .int .i64 a0.f_size.f_Cols, v0_1, .int .i64 a0.f_cursor] 126, .own v0_1 80 k_api_Cell a0.f_cells] (typing_Delete_m K a0) (fun (o : plane_Plane × Int) (x : Unit) => .int .i64 o.2) (fun (o : plane_Plane × Int) (x : Unit) => [.blk b0_0 [.int .i64 o.1.f_size.f_Rows, .int .i64 o.1.f_size.f_Cols, v0_1, .int .i64 o.1.f_cursor] 126, .own v0_1 80 k_api_Cell o.1.f_cells]) := by
  unfold typing_Delete_m
  refine con (args := [.pointer (some ⟨b0_0, 0, none⟩)]) Tryz.func102 rfl 47 rfl (.c .n) rfl fun c hD => ?_
  refine cSeq ?_
  refine cRegion ?_
  refine lRd (dAssign (.c rfl)) rfl rfl ?_
  refine lNil ?_
  refine xCode ?_
  refine cSeq ?_
  refine cRegion ?_
  refine lRd (dMove (.t (.s .z))) rfl rfl ?_
  refine lCall fok_68 (.c (.t .z) .n) (plane_Plane_Cursor_c a0 b0_0 v0_1) (.c .z (.c .z .n)) rfl rfl fun o1 x2 h3 => ?_
  refine lRd (dAssign (.t .z)) rfl rfl ?_
  refine lKeep (.k (.d (.d (.k (.k .n))))) ?_
  refine lNil ?_
  refine xCode ?_
  refine cSeq ?_
  refine cSeq ?_
  refine cRegion ?_
  refine lRd (dMove (.t (.s (.s .z)))) rfl rfl ?_
  refine lRd (dMove (.t (.s .z))) rfl rfl ?_
  refine lCall fok_131 (.c (.t (.s .z)) (.c (.t .z) .n)) (field_Open_c K a0 o1 b0_0 v0_1) (.c .z (.c .z .n)) rfl rfl fun o4 x5 h6 => ?_
  refine lRd (dNot (.t .z)) rfl rfl ?_
  refine lKeep (.k (.d (.d (.d (.k (.k (.k .n))))))) ?_
  refine lNil ?_
  refine xCode ?_
  refine cCondB (.t .z) (fun h7 => ?_) (fun h7 => ?_)
  · refine cSeq ?_
    refine cRegion ?_
    refine lRdK (dAssign (.c rfl)) (.k (.k (.d (Keep.refl _)))) rfl rfl ?_
    refine lKeep (.k (.d (.k (.k .n)))) ?_
    refine lNil ?_
    refine xCode ?_
    refine cRet ?_
    exact rDone (rs := [.tmp 2]) rfl (.t .z .n) hD (.inl rfl) () rfl (.c .z (.c .z .nil))
  · refine cSkip ?_
    refine xCode ?_
    refine cSeq ?_
    refine cRegion ?_
    refine lRd (dMove (.t (.s (.s (.s .z))))) rfl rfl ?_
    refine lRd (dMove (.t (.s (.s .z)))) rfl rfl ?_
    refine lCall fok_153 (.c (.t (.s .z)) (.c (.t .z) .n)) (typing_row_c K a0 o1 b0_0 v0_1) (.c .z (.c .z .n)) rfl rfl fun o8 x9 h10 => ?_
    refine lRd (dAssign (.t .z)) rfl rfl ?_
    refine lKeep (.k (.d (.d (.d (.d (.k (.k (.k .n)))))))) ?_
    refine lNil ?_
    refine xCode ?_
    refine cSeq ?_
    refine cSeq ?_
    refine cRegion ?_
    refine lRd (dMove (.t .z)) rfl rfl ?_
    refine lRd (dLen (at_ := #[160]) (slOwn (.s (.s .z))) rfl und_160 (.t .z)) rfl rfl ?_
    refine lRd (dSubI (.t .z) (.c rfl)) rfl rfl ?_
    refine lRd (dMove (.c rfl)) rfl rfl ?_
    refine lKeep (.k (.k (.d (.d (.k (.k (.k (.k .n)))))))) ?_
    refine lNil ?_
    refine xCode ?_
    refine cLoopB (S := Int × Int × Int × (List api_Cell) × Int) (X := Unit) (S' := Int × Int × (List api_Cell) × Int) (X' := Unit) (typing_Delete_l1 K o8) (fun (s : Int × Int × Int × (List api_Cell) × Int) (x : Unit) => [(18, .int .i64 s.1), (17, .int .i64 (w64 ((o8.length : Int) - 1))), (4, x9), (3, .int .i64 o1), (2, .int .i64 0), (0, .pointer (some ⟨b0_0, 0, none⟩))]) (fun (s : Int × Int × Int × (List api_Cell) × Int) (x : Unit) => [.blk b0_0 [.int .i64 s.2.1, .int .i64 s.2.2.1, v0_1, .int .i64 s.2.2.2.2] 126, .own v0_1 80 k_api_Cell s.2.2.2.1, .own x9 3 (kI .i64) o8]) (fun (s : Int × Int × (List api_Cell) × Int) (x : Unit) => [(4, x9), (3, .int .i64 o1), (2, .int .i64 0), (0, .pointer (some ⟨b0_0, 0, none⟩))]) (fun (s : Int × Int × (List api_Cell) × Int) (x : Unit) => [.blk b0_0 [.int .i64 s.1, .int .i64 s.2.1, v0_1, .int .i64 s.2.2.2] 126, .own v0_1 80 k_api_Cell s.2.2.1, .own x9 3 (kI .i64) o8]) K (0, a0.f_size.f_Rows, a0.f_size.f_Cols, a0.f_cells, a0.f_cursor) () (.c .z (.c (.s .z) (.c (.s (.s .z)) (.c (.s (.s (.s .z))) (.c (.s (.s (.s (.s .z)))) (.c (.s (.s (.s (.s (.s .z))))) .n)))))) (.c .z (.c .z (.c .z .nil))) (fun _ => rfl) (fun n13 I14 h15 s11 x12 => ?_) (fun s29 x30 => ?_)
    · rw [typing_Delete_l1]
      refine cSeq ?_
      refine cRegion ?_
      refine lRd (dLt (.t .z) (.t (.s .z))) rfl rfl ?_
      refine lNil ?_
      refine xCode ?_
      refine cSeq ?_
      refine cCond (.t .z) (fun h16 => ?_) (fun h16 => ?_)
      · refine cSkip ?_
        refine xCode ?_
        refine cSeq ?_
        refine cBlock ?_
        refine cSeq ?_
        refine cRegion ?_
        refine lRd (dMove (.t (.s .z))) rfl rfl ?_
        refine lRd (dAssign (.t .z)) rfl rfl ?_
        refine lNil ?_
        refine xCode ?_
        refine cRegionM [12] [(0, .early), (1, .early), (2, .early), (3, .early), (4, .early), (5, .early), (6, .early), (7, .early), (8, .early), (9, .early), (10, .early), (11, .early), (12, .only)] mixed (by kernel_rfl) (.c (.s (.s .z)) (.c .z (.c .z .nil))) (.c .n) ?_
        refine mRd rfl rfl (fun _ _ _ => dMove (.t (.s (.s (.s (.s (.s (.s (.s (.s .z)))))))))) rfl rfl ?_
        refine mRd rfl rfl (fun _ _ _ => dMove (.t (.s (.s (.s (.s (.s (.s .z)))))))) rfl rfl ?_
        refine mRd rfl rfl (fun _ _ _ => dMove (.t (.s (.s .z)))) rfl rfl ?_
        refine mIx fun y17 h18 h19 => ?_
        refine mRd rfl rfl (fun _ _ _ => dIxAddr (slOwn .z) und_160 siz_3 (.t (.s .z)) (.t .z) h18 h19) rfl rfl ?_
        refine mRd rfl rfl (fun _ _ _ => dLoadE (slOwn .z) agg_3 (.t .z) h19 (fun _ _ h => by cases h; rfl)) rfl rfl ?_
        refine mRd rfl rfl (fun _ _ _ => dMove (.t (.s (.s (.s (.s (.s (.s (.s (.s (.s (.s (.s (.s (.s .z))))))))))))))) rfl rfl ?_
        refine mRd rfl rfl (fun _ _ _ => dMove (.t (.s (.s (.s (.s (.s (.s (.s (.s (.s (.s (.s .z))))))))))))) rfl rfl ?_
        refine mRd rfl rfl (fun _ _ _ => dMove (.t (.s (.s (.s (.s (.s (.s (.s .z))))))))) rfl rfl ?_
        refine mRd rfl rfl (fun _ _ _ => dAddI (.t .z) (.c rfl)) rfl rfl ?_
        refine mIx fun y20 h21 h22 => ?_
        refine mRd rfl rfl (fun _ _ _ => dIxAddr (slOwn .z) und_160 siz_3 (.t (.s (.s .z))) (.t .z) h21 h22) rfl rfl ?_
        refine mRd rfl rfl (fun _ _ _ => dLoadE (slOwn .z) agg_3 (.t .z) h22 (fun _ _ h => by cases h; rfl)) rfl rfl ?_
        refine mCallQ rfl rfl fok_36 (.c (.t (.s (.s (.s (.s (.s .z)))))) (.c (.t .z) .n)) (plane_Plane_At_c (⟨(⟨s11.2.1, s11.2.2.1⟩ : api_Size), s11.2.2.2.1, s11.2.2.2.2⟩ : plane_Plane) y20 b0_0 v0_1) (.c (.s .z) (.c (.s .z) .n)) (fun _ _ => rfl) (fun _ _ => (.c (.s (.s .z)) (.c .z (.c .z .nil)))) rfl rfl fun o23 h25 => ?_
        refine mCallN rfl rfl fok_132 (.c (.t (.s (.s (.s (.s (.s (.s (.s (.s (.s (.s (.s .z)))))))))))) (.c (.t (.s (.s (.s (.s (.s (.s (.s .z)))))))) (.c (.t .z) .n))) (plane_Plane_Set_c (⟨(⟨s11.2.1, s11.2.2.1⟩ : api_Size), s11.2.2.2.1, s11.2.2.2.2⟩ : plane_Plane) y17 o23 b0_0 v0_1) (.c (.s .z) (.c (.s .z) .n)) (fun o26 x27 => (.c (.s (.s .z)) (.c .z (.c .z .nil)))) (fun _ _ => (.c .n)) rfl fun o26 x27 h28  => ?_
        refine mNil ?_
        refine xBlock ?_
        refine xCode ?_
        refine cRegion ?_
        refine lRd (dAddI (.t (.s (.s (.s (.s (.s (.s (.s (.s (.s (.s (.s (.s (.s (.s (.s .z)))))))))))))))) (.c rfl)) rfl rfl ?_
        refine lRdK (dMove (.t .z)) (.k (.k (.k (.k (.k (.k (.k (.k (.k (.k (.k (.k (.k (.k (.k (.k (.d (Keep.refl _)))))))))))))))))) rfl rfl ?_
        refine lNil ?_
        exact xRound h15 (w64 (s11.1 + 1), o26.1.f_size.f_Rows, o26.1.f_size.f_Cols, o26.1.f_cells, o26.1.f_cursor) () (.c .z (.c (.s (.s (.s (.s (.s (.s (.s (.s (.s (.s (.s (.s (.s (.s (.s (.s (.s .z))))))))))))))))) (.c (.s (.s (.s (.s (.s (.s (.s (.s (.s (.s (.s (.s (.s (.s (.s (.s (.s (.s .z)))))))))))))))))) (.c (.s (.s (.s (.s (.s (.s (.s (.s (.s (.s (.s (.s (.s (.s (.s (.s (.s (.s (.s .z))))))))))))))))))) (.c (.s (.s (.s (.s (.s (.s (.s (.s (.s (.s (.s (.s (.s (.s (.s (.s (.s (.s (.s (.s .z)))))))))))))))))))) (.c (.s (.s (.s (.s (.s (.s (.s (.s (.s (.s (.s (.s (.s (.s (.s (.s (.s (.s (.s (.s (.s .z))))))))))))))))))))) .n)))))) (.c (.s .z) (.c (.s .z) (.c .z .nil)))
      · refine cExit ?_
        refine xOver ?_
        refine xOverF ?_
        exact xJoin (s11.2.1, s11.2.2.1, s11.2.2.2.1, s11.2.2.2.2) () (.c (.s (.s (.s .z))) (.c (.s (.s (.s (.s .z)))) (.c (.s (.s (.s (.s (.s .z))))) (.c (.s (.s (.s (.s (.s (.s .z)))))) .n)))) (.c .z (.c .z (.c .z .nil)))
    · refine xCode ?_
      refine cSeq ?_
      refine cRegion ?_
      refine lRd (dMove (.t (.s (.s (.s .z))))) rfl rfl ?_
      refine lRd (dMove (.t (.s .z))) rfl rfl ?_
      refine lRd (dMove (.t (.s (.s .z)))) rfl rfl ?_
      refine lRd (dLen (at_ := #[160]) (slOwn (.s (.s .z))) rfl und_160 (.t .z)) rfl rfl ?_
      refine lRd (dSubI (.t .z) (.c rfl)) rfl rfl ?_
      refine lIx fun y31 h32 h33 => ?_
      refine lRd (dIxAddr (slOwn (.s (.s .z))) und_160 siz_3 (.t (.s (.s (.s .z)))) (.t .z) h32 h33) rfl rfl ?_
      refine lRd (dLoadE (slOwn (.s (.s .z))) agg_3 (.t .z) h33 (fun _ _ h => by cases h; rfl)) rfl rfl ?_
      refine lRd (dBuild (cs := [vB 0, .bool false, .bool false, vB 0, vB 0]) zer_80 rfl plc_80 .n rfl) rfl rfl ?_
      refine lCallN fok_132 (.c (.t (.s (.s (.s (.s (.s (.s (.s .z)))))))) (.c (.t (.s .z)) (.c (.t .z) .n))) (plane_Plane_Set_c (⟨(⟨s29.1, s29.2.1⟩ : api_Size), s29.2.2.1, s29.2.2.2⟩ : plane_Plane) y31 (⟨0, false, false, 0, 0⟩ : api_Cell) b0_0 v0_1) (.c .z (.c .z .n)) rfl fun o34 x35 h36 => ?_
      refine lKeep (.d (.d (.d (.d (.d (.d (.d (.d (.d (.k (.k (.k .n)))))))))))) ?_
      refine lNil ?_
      refine xCode ?_
      refine cSeq ?_
      refine cRegion ?_
      refine lRd (dMove (.t (.s (.s .z)))) rfl rfl ?_
      refine lRd (dMove (.t (.s .z))) rfl rfl ?_
      refine lCallN fok_150 (.c (.t (.s .z)) (.c (.t .z) .n)) (field_Mark_c K o34.1 o1 b0_0 v0_1) (.c .z (.c .z .n)) rfl fun o37 x38 h39 => ?_
      refine lKeep (.d (.d (.d (.k .n)))) ?_
      refine lNil ?_
      refine xCode ?_
      refine cSeq ?_
      refine cRegion ?_
      refine lRdK (dAssign (.c rfl)) (.d (Keep.refl _)) rfl rfl ?_
      refine lNil ?_
      refine xCode ?_
      refine cRet ?_
      exact rDone (rs := [.tmp 2]) rfl (.t .z .n) hD (.inl rfl) () rfl (.c .z (.c .z .nil))

-- greenscreen/typing.Dup
def typing_Dup_m (K : Nat) (a0 : plane_Plane) (a1 : Bool) : Option (plane_Plane × Int) := (plane_Plane_Cursor_m a0).bind fun o1 => (typing_Put_m K a0 (28 : UInt8) a1).bind fun o4 => (if o4.2 ≠ 0 then some (o4.1, o4.2) else (plane_Plane_Point_m o4.1 o1).bind fun o8 => (caret_Tab_m K o8.1).bind fun o11 => some (o11.1, 0))
theorem typing_Dup_c (K : Nat) (a0 : plane_Plane) (a1 : Bool) (b0_0 : Nat) (v0_1 : Value) : Con Tryz.prog 103 #[.pointer (some ⟨b0_0, 0, none⟩), .bool a1] [.blk b0_0 [.int .i64 a0.f_size.f_Rows, .int .i64 a0.f_size.f_Cols, v0_1, .int .i64 a0.f_cursor] 126, .own v0_1 80 k_api_Cell a0.f_cells] (typing_Dup_m K a0 a1) (fun (o : plane_Plane × Int) (x : Unit) => .int .i64 o.2) (fun (o : plane_Plane × Int) (x : Unit) => [.blk b0_0 [.int .i64 o.1.f_size.f_Rows, .int .i64 o.1.f_size.f_Cols, v0_1, .int .i64 o.1.f_cursor] 126, .own v0_1 80 k_api_Cell o.1.f_cells]) := by
  unfold typing_Dup_m
  refine con (args := [.pointer (some ⟨b0_0, 0, none⟩), .bool a1]) Tryz.func103 rfl 20 rfl (.c (.c .n)) rfl fun c hD => ?_
  refine cSeq ?_
  refine cRegion ?_
  refine lRd (dAssign (.c rfl)) rfl rfl ?_
  refine lNil ?_
  refine xCode ?_
  refine cSeq ?_
  refine cRegion ?_
  refine lRd (dMove (.t (.s .z))) rfl rfl ?_
  refine lCall fok_68 (.c (.t .z) .n) (plane_Plane_Cursor_c a0 b0_0 v0_1) (.c .z (.c .z .n)) rfl rfl fun o1 x2 h3 => ?_
  refine lRd (dAssign (.t .z)) rfl rfl ?_
  refine lKeep (.k (.d (.d (.k (.k (.k .n)))))) ?_
  refine lNil ?_
  refine xCode ?_
  refine cSeq ?_
  refine cSeq ?_
  refine cRegion ?_
  refine lRd (dMove (.t (.s (.s .z)))) rfl rfl ?_
  refine lRd (dMove (.t (.s (.s (.s (.s .z)))))) rfl rfl ?_
  refine lCall fok_100 (.c (.t (.s .z)) (.c (.c (v' := vB 28) rfl) (.c (.t .z) .n))) (typing_Put_c K a0 (28 : UInt8) a1 b0_0 v0_1) (.c .z (.c .z .n)) rfl rfl fun o4 x5 h6 => ?_
  refine lRd (dAssign (.t .z)) rfl rfl ?_
  refine lKeep (.k (.d (.d (.d (.k (.k (.k .n))))))) ?_
  refine lNil ?_
  refine xCode ?_
  refine cSeq ?_
  refine cRegion ?_
  refine lRd (dMove (.t .z)) rfl rfl ?_
  refine lRd (dNe (.t .z) (.c rfl)) rfl rfl ?_
  refine lKeep (.k (.d (.k (.k (.k (.k .n)))))) ?_
  refine lNil ?_
  refine xCode ?_
  refine cCond (.t .z) (fun h7 => ?_) (fun h7 => ?_)
  · refine cSeq ?_
    refine cRegion ?_
    refine lRd (dMove (.t (.s .z))) rfl rfl ?_
    refine lRdK (dAssign (.t .z)) (.k (.k (.k (.k (.d (Keep.refl _)))))) rfl rfl ?_
    refine lKeep (.k (.d (.d (.d (.k (.k .n)))))) ?_
    refine lNil ?_
    refine xCode ?_
    refine cRet ?_
    exact rDone (rs := [.tmp 4]) rfl (.t .z .n) hD (.inl rfl) () rfl (.c .z (.c .z .nil))
  · refine cSkip ?_
    refine xCode ?_
    refine cSeq ?_
    refine cRegion ?_
    refine lRd (dMove (.t (.s (.s (.s (.s .z)))))) rfl rfl ?_
    refine lRd (dMove (.t (.s (.s (.s .z))))) rfl rfl ?_
    refine lCallN fok_135 (.c (.t (.s .z)) (.c (.t .z) .n)) (plane_Plane_Point_c o4.1 o1 b0_0 v0_1) (.c .z (.c .z .n)) rfl fun o8 x9 h10 => ?_
    refine lKeep (.d (.d (.d (.d (.d (.k (.k .n))))))) ?_
    refine lNil ?_
    refine xCode ?_
    refine cSeq ?_
    refine cRegion ?_
    refine lRd (dMove (.t (.s .z))) rfl rfl ?_
    refine lCallN fok_95 (.c (.t .z) .n) (caret_Tab_c K o8.1 b0_0 v0_1) (.c .z (.c .z .n)) rfl fun o11 x12 h13 => ?_
    refine lKeep (.d (.k .n)) ?_
    refine lNil ?_
    refine xCode ?_
    refine cSeq ?_
    refine cRegion ?_
    refine lRdK (dAssign (.c rfl)) (.d (Keep.refl _)) rfl rfl ?_
    refine lNil ?_
    refine xCode ?_
    refine cRet ?_
    exact rDone (rs := [.tmp 4]) rfl (.t .z .n) hD (.inl rfl) () rfl (.c .z (.c .z .nil))

-- greenscreen/typing.Mark
def typing_Mark_m (K : Nat) (a0 : plane_Plane) (a1 : Bool) : Option (plane_Plane × Int) := (typing_Put_m K a0 (30 : UInt8) a1).bind fun o1 => some (o1.1, o1.2)
theorem typing_Mark_c (K : Nat) (a0 : plane_Plane) (a1 : Bool) (b0_0 : Nat) (v0_1 : Value) : Con Tryz.prog 104 #[.pointer (some ⟨b0_0, 0, none⟩), .bool a1] [.blk b0_0 [.int .i64 a0.f_size.f_Rows, .int .i64 a0.f_size.f_Cols, v0_1, .int .i64 a0.f_cursor] 126, .own v0_1 80 k_api_Cell a0.f_cells] (typing_Mark_m K a0 a1) (fun (o : plane_Plane × Int) (x : Unit) => .int .i64 o.2) (fun (o : plane_Plane × Int) (x : Unit) => [.blk b0_0 [.int .i64 o.1.f_size.f_Rows, .int .i64 o.1.f_size.f_Cols, v0_1, .int .i64 o.1.f_cursor] 126, .own v0_1 80 k_api_Cell o.1.f_cells]) := by
  unfold typing_Mark_m
  refine con (args := [.pointer (some ⟨b0_0, 0, none⟩), .bool a1]) Tryz.func104 rfl 8 rfl (.c (.c .n)) rfl fun c hD => ?_
  refine cSeq ?_
  refine cRegion ?_
  refine lRd (dAssign (.c rfl)) rfl rfl ?_
  refine lNil ?_
  refine xCode ?_
  refine cSeq ?_
  refine cRegion ?_
  refine lRd (dMove (.t (.s .z))) rfl rfl ?_
  refine lRd (dMove (.t (.s (.s (.s .z))))) rfl rfl ?_
  refine lCall fok_100 (.c (.t (.s .z)) (.c (.c (v' := vB 30) rfl) (.c (.t .z) .n))) (typing_Put_c K a0 (30 : UInt8) a1 b0_0 v0_1) (.c .z (.c .z .n)) rfl rfl fun o1 x2 h3 => ?_
  refine lRdK (dAssign (.t .z)) (.k (.k (.k (.d (Keep.refl _))))) rfl rfl ?_
  refine lKeep (.k .n) ?_
  refine lNil ?_
  refine xCode ?_
  refine cRet ?_
  exact rDone (rs := [.tmp 4]) rfl (.t .z .n) hD (.inl rfl) () rfl (.c .z (.c .z .nil))

-- (*greenscreen/keyboard.Keyboard).edit
def keyboard_Keyboard_edit_m (K : Nat) (a0 : keyboard_Keyboard) (a1 : keyboard_Key) : Option (keyboard_Keyboard × Int) := (screen_Screen_Plane_m a0.f_s).bind fun o2 => (if a1.f_Kind = 1 then (typing_Put_m K a0.f_s.f_p a1.f_Byte a0.f_insert).bind fun o6 => some ((⟨(⟨a0.f_s.f_sizes_0, a0.f_s.f_sizes_1, a0.f_s.f_which, o6.1⟩ : screen_Screen), a0.f_l, a0.f_insert, a0.f_last⟩ : keyboard_Keyboard), o6.2) else (if a1.f_Kind = 10 then (typing_End_m K a0.f_s.f_p).bind fun o10 => some (a0, o10) else (if a1.f_Kind = 11 then none else (if a1.f_Kind = 12 then (typing_Delete_m K a0.f_s.f_p).bind fun o15 => some ((⟨(⟨a0.f_s.f_sizes_0, a0.f_s.f_sizes_1, a0.f_s.f_which, o15.1⟩ : screen_Screen), a0.f_l, a0.f_insert, a0.f_last⟩ : keyboard_Keyboard), o15.2) else (if a1.f_Kind = 13 then some ((⟨a0.f_s, a0.f_l, (!a0.f_insert), a0.f_last⟩ : keyboard_Keyboard), 0) else (if a1.f_Kind = 14 then (typing_Dup_m K a0.f_s.f_p a0.f_insert).bind fun o20 => some ((⟨(⟨a0.f_s.f_sizes_0, a0.f_s.f_sizes_1, a0.f_s.f_which, o20.1⟩ : screen_Screen), a0.f_l, a0.f_insert, a0.f_last⟩ : keyboard_Keyboard), o20.2) else (if a1.f_Kind = 15 then (typing_Mark_m K a0.f_s.f_p a0.f_insert).bind fun o24 => some ((⟨(⟨a0.f_s.f_sizes_0, a0.f_s.f_sizes_1, a0.f_s.f_which, o24.1⟩ : screen_Screen), a0.f_l, a0.f_insert, a0.f_last⟩ : keyboard_Keyboard), o24.2) else some (a0, 0))))))))
theorem keyboard_Keyboard_edit_c (K : Nat) (a0 : keyboard_Keyboard) (a1 : keyboard_Key) (b0_0 : Nat) (b0_1 : Nat) (b0_2 : Nat) (v0_3 : Value) : Con Tryz.prog 53 #[.pointer (some ⟨b0_0, 0, none⟩), .agg #[.int .i64 a1.f_Kind, vB a1.f_Byte]] [.blk b0_0 [.pointer (some ⟨b0_1, 0, none⟩), .int .i64 a0.f_l.f_state, .int .i64 a0.f_l.f_why, .int .i64 a0.f_l.f_turns, .bool a0.f_insert, vB a0.f_last] 97, .blk b0_1 [.int .i64 a0.f_s.f_sizes_0.f_Rows, .int .i64 a0.f_s.f_sizes_0.f_Cols, .int .i64 a0.f_s.f_sizes_1.f_Rows, .int .i64 a0.f_s.f_sizes_1.f_Cols, .int .i64 a0.f_s.f_which, .pointer (some ⟨b0_2, 0, none⟩)] 124, .blk b0_2 [.int .i64 a0.f_s.f_p.f_size.f_Rows, .int .i64 a0.f_s.f_p.f_size.f_Cols, v0_3, .int .i64 a0.f_s.f_p.f_cursor] 126, .own v0_3 80 k_api_Cell a0.f_s.f_p.f_cells] (keyboard_Keyboard_edit_m K a0 a1) (fun (o : keyboard_Keyboard × Int) (x : Unit) => .int .i64 o.2) (fun (o : keyboard_Keyboard × Int) (x : Unit) => [.blk b0_0 [.pointer (some ⟨b0_1, 0, none⟩), .int .i64 o.1.f_l.f_state, .int .i64 o.1.f_l.f_why, .int .i64 o.1.f_l.f_turns, .bool o.1.f_insert, vB o.1.f_last] 97, .blk b0_1 [.int .i64 o.1.f_s.f_sizes_0.f_Rows, .int .i64 o.1.f_s.f_sizes_0.f_Cols, .int .i64 o.1.f_s.f_sizes_1.f_Rows, .int .i64 o.1.f_s.f_sizes_1.f_Cols, .int .i64 o.1.f_s.f_which, .pointer (some ⟨b0_2, 0, none⟩)] 124, .blk b0_2 [.int .i64 o.1.f_s.f_p.f_size.f_Rows, .int .i64 o.1.f_s.f_p.f_size.f_Cols, v0_3, .int .i64 o.1.f_s.f_p.f_cursor] 126, .own v0_3 80 k_api_Cell o.1.f_s.f_p.f_cells]) := by
  unfold keyboard_Keyboard_edit_m
  refine con (args := [.pointer (some ⟨b0_0, 0, none⟩), .agg #[.int .i64 a1.f_Kind, vB a1.f_Byte]]) Tryz.func53 rfl 61 rfl (.c (.c .n)) rfl fun c hD => ?_
  refine cSeq ?_
  refine cRegion ?_
  refine lCh (cBox (cs := [.int .i64 a1.f_Kind, vB a1.f_Byte]) (.t (.s .z)) rfl) rfl rfl fun b1 => ?_
  refine lRd (dAssign (.c rfl)) rfl rfl ?_
  refine lKeep (.k (.k (.k .n))) ?_
  refine lNil ?_
  refine xCode ?_
  refine cSeq ?_
  refine cRegion ?_
  refine lRd (dMove (.t (.s (.s .z)))) rfl rfl ?_
  refine lRd (dNil (.t .z)) rfl rfl ?_
  refine lRd (dFld fld_97_0 (by decide) (.t .z) rfl) rfl rfl ?_
  refine lRd (dLoad (.s .z) agg_35 (.t .z) rfl) rfl rfl ?_
  refine lCall fok_26 (.c (.t .z) .n) (screen_Screen_Plane_c a0.f_s b0_1 b0_2 v0_3) (.c (.s (.s .z)) (.c (.s (.s .z)) (.c (.s (.s .z)) .n))) rfl rfl fun o2 x3 h4 => ?_
  refine lRd (dAssign (.t .z)) rfl rfl ?_
  refine lKeep (.k (.d (.d (.d (.d (.d (.k (.k (.k .n))))))))) ?_
  refine lNil ?_
  refine xCode ?_
  refine cSeq ?_
  refine cSeq ?_
  refine cRegion ?_
  refine lRd (dFld fld_23_0 (by decide) (.t (.s (.s .z))) rfl) rfl rfl ?_
  refine lRd (dLoad (.s (.s (.s .z))) agg_3 (.t .z) rfl) rfl rfl ?_
  refine lKeep (.k (.d (.k (.k (.k (.k .n)))))) ?_
  refine lNil ?_
  refine xCode ?_
  refine cBlock ?_
  refine cSeq ?_
  refine cRegion ?_
  refine lRd (dEq (.t .z) (.c rfl)) rfl rfl ?_
  refine lRd (dAssign (.t .z)) rfl rfl ?_
  refine lKeep (.k (.d (.k (.k (.k (.k (.k .n))))))) ?_
  refine lNil ?_
  refine xCode ?_
  refine cCond (.t .z) (fun h5 => ?_) (fun h5 => ?_)
  · refine cSeq ?_
    refine cRegionM [7] [(0, .early), (1, .early), (2, .early), (3, .early), (4, .early), (5, .early), (6, .early), (7, .only), (8, .quiet)] mixed (by kernel_rfl) (.c .z (.c (.s (.s .z)) (.c (.s (.s .z)) (.c .z (.c .z .nil))))) (.c (.c (.c .n))) ?_
    refine mRd rfl rfl (fun _ _ _ => dMove (.t (.s (.s .z)))) rfl rfl ?_
    refine mRd rfl rfl (fun _ _ _ => dFld fld_23_1 (by decide) (.t (.s (.s (.s (.s (.s .z)))))) rfl) rfl rfl ?_
    refine mRd rfl rfl (fun _ _ _ => dLoad (.s .z) agg_5 (.t .z) rfl) rfl rfl ?_
    refine mRd rfl rfl (fun _ _ _ => dMove (.t (.s (.s (.s (.s (.s (.s (.s (.s .z)))))))))) rfl rfl ?_
    refine mRd rfl rfl (fun _ _ _ => dNil (.t .z)) rfl rfl ?_
    refine mRd rfl rfl (fun _ _ _ => dFld fld_97_2 (by decide) (.t .z) rfl) rfl rfl ?_
    refine mRd rfl rfl (fun _ _ _ => dLoad (.s (.s .z)) agg_4 (.t .z) rfl) rfl rfl ?_
    refine mCall rfl rfl fok_100 (.c (.t (.s (.s (.s (.s (.s (.s .z))))))) (.c (.t (.s (.s (.s (.s .z))))) (.c (.t .z) .n))) (typing_Put_c K a0.f_s.f_p a1.f_Byte a0.f_insert b0_2 v0_3) (.c (.s (.s (.s .z))) (.c (.s (.s (.s .z))) .n)) (fun o6 x7 => (.c (.s (.s .z)) (.c (.s (.s .z)) (.c (.s (.s .z)) (.c .z (.c .z .nil)))))) (fun _ _ => (.c (.c (.c .n)))) rfl rfl fun o6 x7 h8  => ?_
    refine mRdK rfl rfl (fun _ _ _ => dAssign (.t .z)) (.k (.k (.k (.k (.k (.k (.k (.k (.k (.k (.k (.d (Keep.refl _))))))))))))) rfl rfl ?_
    refine mKeep (.k .n) ?_
    refine mNil ?_
    refine xCode ?_
    refine cRet ?_
    exact rDone (rs := [.tmp 4]) rfl (.t .z .n) hD (.inl rfl) () rfl (.c (.s (.s .z)) (.c .z (.c (.s .z) (.c (.s .z) .nil))))
  · refine cSeq ?_
    refine cRegion ?_
    refine lRd (dEq (.t (.s .z)) (.c rfl)) rfl rfl ?_
    refine lRd (dAssign (.t .z)) rfl rfl ?_
    refine lKeep (.k (.d (.d (.k (.k (.k (.d (.k .n)))))))) ?_
    refine lNil ?_
    refine xCode ?_
    refine cCond (.t .z) (fun h9 => ?_) (fun h9 => ?_)
    · refine cSeq ?_
      refine cRegion ?_
      refine lRd (dMove (.t (.s (.s .z)))) rfl rfl ?_
      refine lCall fok_101 (.c (.t .z) .n) (typing_End_c K a0.f_s.f_p b0_2 v0_3) (.c (.s .z) (.c (.s .z) .n)) rfl rfl fun o10 x11 h12 => ?_
      refine lRdK (dAssign (.t .z)) (.k (.k (.k (.k (.k (.d (Keep.refl _))))))) rfl rfl ?_
      refine lKeep (.k .n) ?_
      refine lNil ?_
      refine xCode ?_
      refine cRet ?_
      exact rDone (rs := [.tmp 4]) rfl (.t .z .n) hD (.inl rfl) () rfl (.c (.s (.s (.s (.s .z)))) (.c (.s (.s .z)) (.c .z (.c .z .nil))))
    · refine cSeq ?_
      refine cRegion ?_
      refine lRd (dEq (.t (.s .z)) (.c rfl)) rfl rfl ?_
      refine lRd (dAssign (.t .z)) rfl rfl ?_
      refine lKeep (.k (.d (.d (.k (.k (.k (.k .n))))))) ?_
      refine lNil ?_
      refine xCode ?_
      refine cCond (.t .z) (fun h13 => ?_) (fun h13 => ?_)
      · exact cStuck
      · refine cSeq ?_
        refine cRegion ?_
        refine lRd (dEq (.t (.s .z)) (.c rfl)) rfl rfl ?_
        refine lRd (dAssign (.t .z)) rfl rfl ?_
        refine lKeep (.k (.d (.d (.k (.k (.k (.k .n))))))) ?_
        refine lNil ?_
        refine xCode ?_
        refine cCond (.t .z) (fun h14 => ?_) (fun h14 => ?_)
        · refine cSeq ?_
          refine cRegion ?_
          refine lRd (dMove (.t (.s (.s .z)))) rfl rfl ?_
          refine lCall fok_102 (.c (.t .z) .n) (typing_Delete_c K a0.f_s.f_p b0_2 v0_3) (.c (.s .z) (.c (.s .z) .n)) rfl rfl fun o15 x16 h17 => ?_
          refine lRdK (dAssign (.t .z)) (.k (.k (.k (.k (.k (.d (Keep.refl _))))))) rfl rfl ?_
          refine lKeep (.k .n) ?_
          refine lNil ?_
          refine xCode ?_
          refine cRet ?_
          exact rDone (rs := [.tmp 4]) rfl (.t .z .n) hD (.inl rfl) () rfl (.c (.s (.s (.s (.s .z)))) (.c (.s (.s .z)) (.c .z (.c .z .nil))))
        · refine cSeq ?_
          refine cRegion ?_
          refine lRd (dEq (.t (.s .z)) (.c rfl)) rfl rfl ?_
          refine lRd (dAssign (.t .z)) rfl rfl ?_
          refine lKeep (.k (.d (.d (.k (.k (.k (.k .n))))))) ?_
          refine lNil ?_
          refine xCode ?_
          refine cCond (.t .z) (fun h18 => ?_) (fun h18 => ?_)
          · refine cRegion ?_
            refine lRd (dMove (.t (.s (.s (.s (.s .z)))))) rfl rfl ?_
            refine lRd (dMove (.t (.s (.s (.s (.s (.s .z))))))) rfl rfl ?_
            refine lRd (dNil (.t .z)) rfl rfl ?_
            refine lRd (dFld fld_97_2 (by decide) (.t .z) rfl) rfl rfl ?_
            refine lRd (dLoad (.s (.s (.s (.s .z)))) agg_4 (.t .z) rfl) rfl rfl ?_
            refine lRd (dNot (.t .z)) rfl rfl ?_
            refine lRd (dNil (.t (.s (.s (.s (.s (.s .z))))))) rfl rfl ?_
            refine lRd (dFld fld_97_2 (by decide) (.t .z) rfl) rfl rfl ?_
            refine lChU (uStore (.s (.s (.s (.s .z)))) siz_4 rfl (.s (.s (.s (.s .z)))) (.t .z) (.t (.s (.s .z)))) ?_
            refine lKeep (.d (.d (.d (.d (.d (.d (.d (.d (.d (.d (.d (.k .n)))))))))))) ?_
            refine lNil ?_
            refine xBlock ?_
            refine xCode ?_
            refine cSeq ?_
            refine cRegion ?_
            refine lRdK (dAssign (.c rfl)) (.d (Keep.refl _)) rfl rfl ?_
            refine lNil ?_
            refine xCode ?_
            refine cRet ?_
            exact rDone (rs := [.tmp 4]) rfl (.t .z .n) hD (.inl rfl) () rfl (.c (.s (.s (.s (.s .z)))) (.c .z (.c .z (.c .z .nil))))
          · refine cSeq ?_
            refine cRegion ?_
            refine lRd (dEq (.t (.s .z)) (.c rfl)) rfl rfl ?_
            refine lRd (dAssign (.t .z)) rfl rfl ?_
            refine lKeep (.k (.d (.d (.k (.k (.k (.k .n))))))) ?_
            refine lNil ?_
            refine xCode ?_
            refine cCond (.t .z) (fun h19 => ?_) (fun h19 => ?_)
            · refine cSeq ?_
              refine cRegion ?_
              refine lRd (dMove (.t (.s (.s .z)))) rfl rfl ?_
              refine lRd (dMove (.t (.s (.s (.s (.s (.s .z))))))) rfl rfl ?_
              refine lRd (dNil (.t .z)) rfl rfl ?_
              refine lRd (dFld fld_97_2 (by decide) (.t .z) rfl) rfl rfl ?_
              refine lRd (dLoad (.s (.s (.s (.s .z)))) agg_4 (.t .z) rfl) rfl rfl ?_
              refine lCall fok_103 (.c (.t (.s (.s (.s (.s .z))))) (.c (.t .z) .n)) (typing_Dup_c K a0.f_s.f_p a0.f_insert b0_2 v0_3) (.c (.s .z) (.c (.s .z) .n)) rfl rfl fun o20 x21 h22 => ?_
              refine lRdK (dAssign (.t .z)) (.k (.k (.k (.k (.k (.k (.k (.k (.k (.d (Keep.refl _))))))))))) rfl rfl ?_
              refine lKeep (.k .n) ?_
              refine lNil ?_
              refine xCode ?_
              refine cRet ?_
              exact rDone (rs := [.tmp 4]) rfl (.t .z .n) hD (.inl rfl) () rfl (.c (.s (.s (.s (.s .z)))) (.c (.s (.s .z)) (.c .z (.c .z .nil))))
            · refine cSeq ?_
              refine cRegion ?_
              refine lRd (dEq (.t (.s .z)) (.c rfl)) rfl rfl ?_
              refine lRd (dAssign (.t .z)) rfl rfl ?_
              refine lKeep (.k (.d (.d (.d (.k (.k (.k .n))))))) ?_
              refine lNil ?_
              refine xCode ?_
              refine cCond (.t .z) (fun h23 => ?_) (fun h23 => ?_)
              · refine cSeq ?_
                refine cRegion ?_
                refine lRd (dMove (.t (.s .z))) rfl rfl ?_
                refine lRd (dMove (.t (.s (.s (.s (.s .z)))))) rfl rfl ?_
                refine lRd (dNil (.t .z)) rfl rfl ?_
                refine lRd (dFld fld_97_2 (by decide) (.t .z) rfl) rfl rfl ?_
                refine lRd (dLoad (.s (.s (.s (.s .z)))) agg_4 (.t .z) rfl) rfl rfl ?_
                refine lCall fok_104 (.c (.t (.s (.s (.s (.s .z))))) (.c (.t .z) .n)) (typing_Mark_c K a0.f_s.f_p a0.f_insert b0_2 v0_3) (.c (.s .z) (.c (.s .z) .n)) rfl rfl fun o24 x25 h26 => ?_
                refine lRdK (dAssign (.t .z)) (.k (.k (.k (.k (.k (.k (.k (.k (.d (Keep.refl _)))))))))) rfl rfl ?_
                refine lKeep (.k .n) ?_
                refine lNil ?_
                refine xCode ?_
                refine cRet ?_
                exact rDone (rs := [.tmp 4]) rfl (.t .z .n) hD (.inl rfl) () rfl (.c (.s (.s (.s (.s .z)))) (.c (.s (.s .z)) (.c .z (.c .z .nil))))
              · refine cSkip ?_
                refine xBlock ?_
                refine xCode ?_
                refine cSeq ?_
                refine cRegion ?_
                refine lRdK (dAssign (.c rfl)) (.k (.k (.d (Keep.refl _)))) rfl rfl ?_
                refine lKeep (.k .n) ?_
                refine lNil ?_
                refine xCode ?_
                refine cRet ?_
                exact rDone (rs := [.tmp 4]) rfl (.t .z .n) hD (.inl rfl) () rfl (.c (.s (.s (.s (.s .z)))) (.c .z (.c .z (.c .z .nil))))

-- (*greenscreen/lock.Lock).Reset
def lock_Lock_Reset_v0_m (a0 : keyboard_Keyboard) : Option (keyboard_Keyboard × Bool) := (if a0.f_l.f_state ≠ 3 then some (a0, false) else (lock_Lock_Open_v0_m a0).bind fun o2 => some (o2, true))
theorem lock_Lock_Reset_v0_c (a0 : keyboard_Keyboard) (b0_0 : Nat) (b0_1 : Nat) (b0_2 : Nat) (v0_3 : Value) : Con Tryz.prog 48 #[.pointer (some ⟨b0_0, 1, none⟩)] [.blk b0_0 [.pointer (some ⟨b0_1, 0, none⟩), .int .i64 a0.f_l.f_state, .int .i64 a0.f_l.f_why, .int .i64 a0.f_l.f_turns, .bool a0.f_insert, vB a0.f_last] 97, .blk b0_1 [.int .i64 a0.f_s.f_sizes_0.f_Rows, .int .i64 a0.f_s.f_sizes_0.f_Cols, .int .i64 a0.f_s.f_sizes_1.f_Rows, .int .i64 a0.f_s.f_sizes_1.f_Cols, .int .i64 a0.f_s.f_which, .pointer (some ⟨b0_2, 0, none⟩)] 124, .blk b0_2 [.int .i64 a0.f_s.f_p.f_size.f_Rows, .int .i64 a0.f_s.f_p.f_size.f_Cols, v0_3, .int .i64 a0.f_s.f_p.f_cursor] 126, .own v0_3 80 k_api_Cell a0.f_s.f_p.f_cells] (lock_Lock_Reset_v0_m a0) (fun (o : keyboard_Keyboard × Bool) (x : Unit) => .bool o.2) (fun (o : keyboard_Keyboard × Bool) (x : Unit) => [.blk b0_0 [.pointer (some ⟨b0_1, 0, none⟩), .int .i64 o.1.f_l.f_state, .int .i64 o.1.f_l.f_why, .int .i64 o.1.f_l.f_turns, .bool o.1.f_insert, vB o.1.f_last] 97, .blk b0_1 [.int .i64 o.1.f_s.f_sizes_0.f_Rows, .int .i64 o.1.f_s.f_sizes_0.f_Cols, .int .i64 o.1.f_s.f_sizes_1.f_Rows, .int .i64 o.1.f_s.f_sizes_1.f_Cols, .int .i64 o.1.f_s.f_which, .pointer (some ⟨b0_2, 0, none⟩)] 124, .blk b0_2 [.int .i64 o.1.f_s.f_p.f_size.f_Rows, .int .i64 o.1.f_s.f_p.f_size.f_Cols, v0_3, .int .i64 o.1.f_s.f_p.f_cursor] 126, .own v0_3 80 k_api_Cell o.1.f_s.f_p.f_cells]) := by
  unfold lock_Lock_Reset_v0_m
  refine con (args := [.pointer (some ⟨b0_0, 1, none⟩)]) Tryz.func48 rfl 10 rfl (.c .n) rfl fun c hD => ?_
  refine cSeq ?_
  refine cRegion ?_
  refine lRd (dAssign (.c rfl)) rfl rfl ?_
  refine lNil ?_
  refine xCode ?_
  refine cSeq ?_
  refine cSeq ?_
  refine cRegion ?_
  refine lRd (dMove (.t (.s .z))) rfl rfl ?_
  refine lRd (dNil (.t .z)) rfl rfl ?_
  refine lRd (dFld fld_95_0 (by decide) (.t .z) rfl) rfl rfl ?_
  refine lRd (dLoad .z agg_3 (.t .z) rfl) rfl rfl ?_
  refine lRd (dNe (.t .z) (.c rfl)) rfl rfl ?_
  refine lKeep (.k (.d (.d (.d (.d (.k (.k .n))))))) ?_
  refine lNil ?_
  refine xCode ?_
  refine cCond (.t .z) (fun h1 => ?_) (fun h1 => ?_)
  · refine cSeq ?_
    refine cRegion ?_
    refine lRdK (dAssign (.c rfl)) (.k (.d (Keep.refl _))) rfl rfl ?_
    refine lKeep (.k (.d (.k .n))) ?_
    refine lNil ?_
    refine xCode ?_
    refine cRet ?_
    exact rDone (rs := [.tmp 2]) rfl (.t .z .n) hD (.inl rfl) () rfl (.c .z (.c .z (.c .z (.c .z .nil))))
  · refine cSkip ?_
    refine xCode ?_
    refine cSeq ?_
    refine cRegion ?_
    refine lRd (dMove (.t (.s (.s .z)))) rfl rfl ?_
    refine lCallN fok_21 (.c (.t .z) .n) (lock_Lock_Open_v0_c a0 b0_0 b0_1 b0_2 v0_3) (.c .z (.c .z (.c .z (.c .z .n)))) rfl fun o2 x3 h4 => ?_
    refine lKeep (.d (.d (.k .n))) ?_
    refine lNil ?_
    refine xCode ?_
    refine cSeq ?_
    refine cRegion ?_
    refine lRdK (dAssign (.c rfl)) (.d (Keep.refl _)) rfl rfl ?_
    refine lNil ?_
    refine xCode ?_
    refine cRet ?_
    exact rDone (rs := [.tmp 2]) rfl (.t .z .n) hD (.inl rfl) () rfl (.c .z (.c .z (.c .z (.c .z .nil))))

-- (*greenscreen/lock.Lock).Fail
def lock_Lock_Fail_v0_m (a0 : keyboard_Keyboard) (a1 : Int) : Option (keyboard_Keyboard × Int) := (lock_Lock_May_v0_m a0).bind fun o1 => (if o1 ≠ 0 then some (a0, o1) else (if a1 ≠ 0 then (lock_Lock_turn_v0_m a0 3 a1).bind fun o6 => some (o6, a1) else some (a0, a1)))
theorem lock_Lock_Fail_v0_c (a0 : keyboard_Keyboard) (a1 : Int) (b0_0 : Nat) (b0_1 : Nat) (b0_2 : Nat) (v0_3 : Value) : Con Tryz.prog 52 #[.pointer (some ⟨b0_0, 1, none⟩), .int .i64 a1] [.blk b0_0 [.pointer (some ⟨b0_1, 0, none⟩), .int .i64 a0.f_l.f_state, .int .i64 a0.f_l.f_why, .int .i64 a0.f_l.f_turns, .bool a0.f_insert, vB a0.f_last] 97, .blk b0_1 [.int .i64 a0.f_s.f_sizes_0.f_Rows, .int .i64 a0.f_s.f_sizes_0.f_Cols, .int .i64 a0.f_s.f_sizes_1.f_Rows, .int .i64 a0.f_s.f_sizes_1.f_Cols, .int .i64 a0.f_s.f_which, .pointer (some ⟨b0_2, 0, none⟩)] 124, .blk b0_2 [.int .i64 a0.f_s.f_p.f_size.f_Rows, .int .i64 a0.f_s.f_p.f_size.f_Cols, v0_3, .int .i64 a0.f_s.f_p.f_cursor] 126, .own v0_3 80 k_api_Cell a0.f_s.f_p.f_cells] (lock_Lock_Fail_v0_m a0 a1) (fun (o : keyboard_Keyboard × Int) (x : Unit) => .int .i64 o.2) (fun (o : keyboard_Keyboard × Int) (x : Unit) => [.blk b0_0 [.pointer (some ⟨b0_1, 0, none⟩), .int .i64 o.1.f_l.f_state, .int .i64 o.1.f_l.f_why, .int .i64 o.1.f_l.f_turns, .bool o.1.f_insert, vB o.1.f_last] 97, .blk b0_1 [.int .i64 o.1.f_s.f_sizes_0.f_Rows, .int .i64 o.1.f_s.f_sizes_0.f_Cols, .int .i64 o.1.f_s.f_sizes_1.f_Rows, .int .i64 o.1.f_s.f_sizes_1.f_Cols, .int .i64 o.1.f_s.f_which, .pointer (some ⟨b0_2, 0, none⟩)] 124, .blk b0_2 [.int .i64 o.1.f_s.f_p.f_size.f_Rows, .int .i64 o.1.f_s.f_p.f_size.f_Cols, v0_3, .int .i64 o.1.f_s.f_p.f_cursor] 126, .own v0_3 80 k_api_Cell o.1.f_s.f_p.f_cells]) := by
  unfold lock_Lock_Fail_v0_m
  refine con (args := [.pointer (some ⟨b0_0, 1, none⟩), .int .i64 a1]) Tryz.func52 rfl 17 rfl (.c (.c .n)) rfl fun c hD => ?_
  refine cSeq ?_
  refine cRegion ?_
  refine lRd (dAssign (.c rfl)) rfl rfl ?_
  refine lNil ?_
  refine xCode ?_
  refine cSeq ?_
  refine cSeq ?_
  refine cRegion ?_
  refine lRd (dMove (.t (.s .z))) rfl rfl ?_
  refine lCall fok_28 (.c (.t .z) .n) (lock_Lock_May_v0_c a0 b0_0 b0_1 b0_2 v0_3) (.c .z (.c .z (.c .z (.c .z .n)))) rfl rfl fun o1 x2 h3 => ?_
  refine lRd (dAssign (.t .z)) rfl rfl ?_
  refine lKeep (.k (.d (.d (.k (.k (.k .n)))))) ?_
  refine lNil ?_
  refine xCode ?_
  refine cSeq ?_
  refine cRegion ?_
  refine lRd (dMove (.t .z)) rfl rfl ?_
  refine lRd (dNe (.t .z) (.c rfl)) rfl rfl ?_
  refine lKeep (.k (.d (.k (.k (.k (.k .n)))))) ?_
  refine lNil ?_
  refine xCode ?_
  refine cCond (.t .z) (fun h4 => ?_) (fun h4 => ?_)
  · refine cSeq ?_
    refine cRegion ?_
    refine lRd (dMove (.t (.s .z))) rfl rfl ?_
    refine lRdK (dAssign (.t .z)) (.k (.k (.k (.d (Keep.refl _))))) rfl rfl ?_
    refine lKeep (.k (.d (.d (.d (.k (.k .n)))))) ?_
    refine lNil ?_
    refine xCode ?_
    refine cRet ?_
    exact rDone (rs := [.tmp 4]) rfl (.t .z .n) hD (.inl rfl) () rfl (.c .z (.c .z (.c .z (.c .z .nil))))
  · refine cSkip ?_
    refine xCode ?_
    refine cSeq ?_
    refine cSeq ?_
    refine cRegion ?_
    refine lRd (dMove (.t (.s (.s (.s (.s .z)))))) rfl rfl ?_
    refine lRd (dNe (.t .z) (.c rfl)) rfl rfl ?_
    refine lKeep (.k (.d (.d (.d (.k (.k (.k .n))))))) ?_
    refine lNil ?_
    refine xCode ?_
    refine cCond (.t .z) (fun h5 => ?_) (fun h5 => ?_)
    · refine cRegion ?_
      refine lRd (dMove (.t (.s (.s .z)))) rfl rfl ?_
      refine lRd (dMove (.t (.s (.s (.s (.s .z)))))) rfl rfl ?_
      refine lCallN fok_47 (.c (.t (.s .z)) (.c (.c rfl) (.c (.t .z) .n))) (lock_Lock_turn_v0_c a0 3 a1 b0_0 b0_1 b0_2 v0_3) (.c .z (.c .z (.c .z (.c .z .n)))) rfl fun o6 x7 h8 => ?_
      refine lKeep (.d (.d (.d (.k (.d (.k .n)))))) ?_
      refine lNil ?_
      refine xCode ?_
      refine cSeq ?_
      refine cRegion ?_
      refine lRd (dMove (.t (.s .z))) rfl rfl ?_
      refine lRdK (dAssign (.t .z)) (.k (.d (Keep.refl _))) rfl rfl ?_
      refine lKeep (.k .n) ?_
      refine lNil ?_
      refine xCode ?_
      refine cRet ?_
      exact rDone (rs := [.tmp 4]) rfl (.t .z .n) hD (.inl rfl) () rfl (.c .z (.c .z (.c .z (.c .z .nil))))
    · refine cSkip ?_
      refine xCode ?_
      refine cSeq ?_
      refine cRegion ?_
      refine lRd (dMove (.t (.s (.s (.s .z))))) rfl rfl ?_
      refine lRdK (dAssign (.t .z)) (.k (.k (.d (Keep.refl _)))) rfl rfl ?_
      refine lKeep (.k .n) ?_
      refine lNil ?_
      refine xCode ?_
      refine cRet ?_
      exact rDone (rs := [.tmp 4]) rfl (.t .z .n) hD (.inl rfl) () rfl (.c .z (.c .z (.c .z (.c .z .nil))))

-- (*greenscreen/keyboard.Keyboard).Press
def keyboard_Keyboard_Press_m (K : Nat) (a0 : keyboard_Keyboard) (a1 : keyboard_Key) : Option (keyboard_Keyboard × Bool × Int) := (if a1.f_Kind = 16 then (lock_Lock_Reset_v0_m a0).bind fun o3 => some ((⟨o3.1.f_s, o3.1.f_l, false, o3.1.f_last⟩ : keyboard_Keyboard), false, 0) else (lock_Lock_May_v0_m a0).bind fun o6 => (if o6 ≠ 0 then some (a0, false, o6) else (keyboard_right_m a1).bind fun o10 => (if (!o10) = true then some (a0, false, 1) else (if a1.f_Kind = 17 then (keyboard_Keyboard_send_m a0 a1.f_Byte).bind fun o15 => some (o15.1, o15.2.1, o15.2.2) else (screen_Screen_Plane_m a0.f_s).bind fun o18 => (keyboard_move_m K a0.f_s.f_p a1.f_Kind).bind fun o21 => (if o21.2 = true then some ((⟨(⟨a0.f_s.f_sizes_0, a0.f_s.f_sizes_1, a0.f_s.f_which, o21.1⟩ : screen_Screen), a0.f_l, a0.f_insert, a0.f_last⟩ : keyboard_Keyboard), false, 0) else (keyboard_Keyboard_edit_m K (⟨(⟨a0.f_s.f_sizes_0, a0.f_s.f_sizes_1, a0.f_s.f_which, o21.1⟩ : screen_Screen), a0.f_l, a0.f_insert, a0.f_last⟩ : keyboard_Keyboard) a1).bind fun o25 => (lock_Lock_Fail_v0_m o25.1 o25.2).bind fun o28 => some (o28.1, false, o28.2))))))
theorem keyboard_Keyboard_Press_c (K : Nat) (a0 : keyboard_Keyboard) (a1 : keyboard_Key) (b0_0 : Nat) (b0_1 : Nat) (b0_2 : Nat) (v0_3 : Value) : Con Tryz.prog 23 #[.pointer (some ⟨b0_0, 0, none⟩), .agg #[.int .i64 a1.f_Kind, vB a1.f_Byte]] [.blk b0_0 [.pointer (some ⟨b0_1, 0, none⟩), .int .i64 a0.f_l.f_state, .int .i64 a0.f_l.f_why, .int .i64 a0.f_l.f_turns, .bool a0.f_insert, vB a0.f_last] 97, .blk b0_1 [.int .i64 a0.f_s.f_sizes_0.f_Rows, .int .i64 a0.f_s.f_sizes_0.f_Cols, .int .i64 a0.f_s.f_sizes_1.f_Rows, .int .i64 a0.f_s.f_sizes_1.f_Cols, .int .i64 a0.f_s.f_which, .pointer (some ⟨b0_2, 0, none⟩)] 124, .blk b0_2 [.int .i64 a0.f_s.f_p.f_size.f_Rows, .int .i64 a0.f_s.f_p.f_size.f_Cols, v0_3, .int .i64 a0.f_s.f_p.f_cursor] 126, .own v0_3 80 k_api_Cell a0.f_s.f_p.f_cells] (keyboard_Keyboard_Press_m K a0 a1) (fun (o : keyboard_Keyboard × Bool × Int) (x : Nat × Value) => .tuple #[.bool o.2.1, .int .i64 o.2.2]) (fun (o : keyboard_Keyboard × Bool × Int) (x : Nat × Value) => [.blk b0_0 [.pointer (some ⟨b0_1, 0, none⟩), .int .i64 o.1.f_l.f_state, .int .i64 o.1.f_l.f_why, .int .i64 o.1.f_l.f_turns, .bool o.1.f_insert, vB o.1.f_last] 97, .blk b0_1 [.int .i64 o.1.f_s.f_sizes_0.f_Rows, .int .i64 o.1.f_s.f_sizes_0.f_Cols, .int .i64 o.1.f_s.f_sizes_1.f_Rows, .int .i64 o.1.f_s.f_sizes_1.f_Cols, .int .i64 o.1.f_s.f_which, .pointer (some ⟨x.1, 0, none⟩)] 124, .blk x.1 [.int .i64 o.1.f_s.f_p.f_size.f_Rows, .int .i64 o.1.f_s.f_p.f_size.f_Cols, x.2, .int .i64 o.1.f_s.f_p.f_cursor] 126, .own x.2 80 k_api_Cell o.1.f_s.f_p.f_cells]) := by
  unfold keyboard_Keyboard_Press_m
  refine con (args := [.pointer (some ⟨b0_0, 0, none⟩), .agg #[.int .i64 a1.f_Kind, vB a1.f_Byte]]) Tryz.func23 rfl 55 rfl (.c (.c .n)) rfl fun c hD => ?_
  refine cSeq ?_
  refine cRegion ?_
  refine lCh (cBox (cs := [.int .i64 a1.f_Kind, vB a1.f_Byte]) (.t (.s .z)) rfl) rfl rfl fun b1 => ?_
  refine lRd (dAssign (.c rfl)) rfl rfl ?_
  refine lRd (dAssign (.c rfl)) rfl rfl ?_
  refine lKeep (.k (.k (.k (.k .n)))) ?_
  refine lNil ?_
  refine xCode ?_
  refine cSeq ?_
  refine cSeq ?_
  refine cRegion ?_
  refine lRd (dFld fld_23_0 (by decide) (.t (.s (.s .z))) rfl) rfl rfl ?_
  refine lRd (dLoad .z agg_3 (.t .z) rfl) rfl rfl ?_
  refine lRd (dEq (.t .z) (.c rfl)) rfl rfl ?_
  refine lKeep (.k (.d (.d (.k (.k (.k (.k .n))))))) ?_
  refine lNil ?_
  refine xCode ?_
  refine cCond (.t .z) (fun h2 => ?_) (fun h2 => ?_)
  · refine cSeq ?_
    refine cRegion ?_
    refine lRd (dMove (.t (.s (.s (.s (.s .z)))))) rfl rfl ?_
    refine lRd (dNil (.t .z)) rfl rfl ?_
    refine lRd (dFld fld_97_1 (by decide) (.t .z) rfl) rfl rfl ?_
    refine lCallN fok_48 (.c (.t .z) .n) (lock_Lock_Reset_v0_c a0 b0_0 b0_1 b0_2 v0_3) (.c (.s .z) (.c (.s .z) (.c (.s .z) (.c (.s .z) .n)))) rfl fun o3 x4 h5 => ?_
    refine lKeep (.d (.d (.d (.d (.k (.k (.k (.k .n)))))))) ?_
    refine lNil ?_
    refine xCode ?_
    refine cSeq ?_
    refine cRegion ?_
    refine lRd (dMove (.t (.s (.s (.s .z))))) rfl rfl ?_
    refine lRd (dNil (.t .z)) rfl rfl ?_
    refine lRd (dFld fld_97_2 (by decide) (.t .z) rfl) rfl rfl ?_
    refine lChU (uStore .z siz_4 rfl (.s (.s (.s (.s .z)))) (.t .z) (.c rfl)) ?_
    refine lKeep (.d (.d (.d (.k (.k (.k (.k .n))))))) ?_
    refine lNil ?_
    refine xCode ?_
    refine cSeq ?_
    refine cRegion ?_
    refine lRdK (dAssign (.c rfl)) (.k (.d (Keep.refl _))) rfl rfl ?_
    refine lRdK (dAssign (.c rfl)) (.k (.d (Keep.refl _))) rfl rfl ?_
    refine lNil ?_
    refine xCode ?_
    refine cRet ?_
    exact rDone (rs := [.tmp 4, .tmp 5]) rfl (.t (.s .z) (.t .z .n)) hD (.inl rfl) (b0_2, v0_3) rfl (.c .z (.c .z (.c .z (.c .z .nil))))
  · refine cSkip ?_
    refine xCode ?_
    refine cSeq ?_
    refine cRegion ?_
    refine lRd (dMove (.t (.s (.s (.s (.s .z)))))) rfl rfl ?_
    refine lRd (dNil (.t .z)) rfl rfl ?_
    refine lRd (dFld fld_97_1 (by decide) (.t .z) rfl) rfl rfl ?_
    refine lCall fok_28 (.c (.t .z) .n) (lock_Lock_May_v0_c a0 b0_0 b0_1 b0_2 v0_3) (.c (.s .z) (.c (.s .z) (.c (.s .z) (.c (.s .z) .n)))) rfl rfl fun o6 x7 h8 => ?_
    refine lRd (dAssign (.t .z)) rfl rfl ?_
    refine lKeep (.k (.d (.d (.d (.d (.d (.k (.k (.k (.k .n)))))))))) ?_
    refine lNil ?_
    refine xCode ?_
    refine cSeq ?_
    refine cBlock ?_
    refine cSeq ?_
    refine cRegion ?_
    refine lRd (dMove (.t .z)) rfl rfl ?_
    refine lRd (dNe (.t .z) (.c rfl)) rfl rfl ?_
    refine lRd (dAssign (.t .z)) rfl rfl ?_
    refine lKeep (.k (.d (.d (.k (.k (.k (.k (.k .n)))))))) ?_
    refine lNil ?_
    refine xCode ?_
    refine cCond (.t .z) (fun h9 => ?_) (fun h9 => ?_)
    · refine cSeq ?_
      refine cRegion ?_
      refine lRd (dMove (.t (.s .z))) rfl rfl ?_
      refine lRdK (dAssign (.c rfl)) (.k (.k (.k (.k (.d (Keep.refl _)))))) rfl rfl ?_
      refine lRdK (dAssign (.t (.s .z))) (.k (.k (.k (.k (.d (Keep.refl _)))))) rfl rfl ?_
      refine lKeep (.k (.k (.d (.d (.d (.k (.k .n))))))) ?_
      refine lNil ?_
      refine xCode ?_
      refine cRet ?_
      exact rDone (rs := [.tmp 4, .tmp 5]) rfl (.t (.s .z) (.t .z .n)) hD (.inl rfl) (b0_2, v0_3) rfl (.c .z (.c .z (.c .z (.c .z .nil))))
    · refine cSeq ?_
      refine cRegion ?_
      refine lRd (dLoadA (us := [.int .i64 a1.f_Kind, vB a1.f_Byte]) (.s (.s (.s (.s .z)))) agg_23 siz_23 rfl (.t (.s (.s (.s (.s .z))))) rfl) rfl rfl ?_
      refine lCall fok_49 (.c (.t .z) .n) (keyboard_right_c a1) .n rfl rfl fun o10 x11 h12 => ?_
      refine lRd (dNot (.t .z)) rfl rfl ?_
      refine lRd (dAssign (.t .z)) rfl rfl ?_
      refine lKeep (.k (.d (.d (.d (.d (.d (.k (.k (.k (.k .n)))))))))) ?_
      refine lNil ?_
      refine xCode ?_
      refine cCondB (.t .z) (fun h13 => ?_) (fun h13 => ?_)
      · refine cSeq ?_
        refine cRegion ?_
        refine lRdK (dAssign (.c rfl)) (.k (.k (.d (Keep.refl _)))) rfl rfl ?_
        refine lRdK (dAssign (.c rfl)) (.k (.k (.d (Keep.refl _)))) rfl rfl ?_
        refine lKeep (.k (.k (.d (.k (.k .n))))) ?_
        refine lNil ?_
        refine xCode ?_
        refine cRet ?_
        exact rDone (rs := [.tmp 4, .tmp 5]) rfl (.t (.s .z) (.t .z .n)) hD (.inl rfl) (b0_2, v0_3) rfl (.c .z (.c .z (.c .z (.c .z .nil))))
      · refine cSeq ?_
        refine cRegion ?_
        refine lRd (dFld fld_23_0 (by decide) (.t (.s (.s (.s .z)))) rfl) rfl rfl ?_
        refine lRd (dLoad (.s (.s (.s (.s .z)))) agg_3 (.t .z) rfl) rfl rfl ?_
        refine lRd (dEq (.t .z) (.c rfl)) rfl rfl ?_
        refine lRd (dAssign (.t .z)) rfl rfl ?_
        refine lKeep (.k (.d (.d (.d (.d (.k (.k (.k (.k .n))))))))) ?_
        refine lNil ?_
        refine xCode ?_
        refine cCond (.t .z) (fun h14 => ?_) (fun h14 => ?_)
        · refine cSeq ?_
          refine cRegion ?_
          refine lRd (dMove (.t (.s (.s (.s (.s .z)))))) rfl rfl ?_
          refine lRd (dFld fld_23_1 (by decide) (.t (.s (.s (.s (.s .z))))) rfl) rfl rfl ?_
          refine lRd (dLoad (.s (.s (.s (.s .z)))) agg_5 (.t .z) rfl) rfl rfl ?_
          refine lCall fok_50 (.c (.t (.s (.s .z))) (.c (.t .z) .n)) (keyboard_Keyboard_send_c a0 a1.f_Byte b0_0 b0_1 b0_2 v0_3) (.c .z (.c .z (.c .z (.c .z .n)))) rfl rfl fun o15 x16 h17 => ?_
          refine lRd (dExtract (.t .z) rfl) rfl rfl ?_
          refine lRd (dExtract (.t (.s .z)) rfl) rfl rfl ?_
          refine lRdK (dAssign (.t (.s .z))) (.k (.k (.k (.k (.k (.k (.k (.k (.d (Keep.refl _)))))))))) rfl rfl ?_
          refine lRdK (dAssign (.t (.s .z))) (.k (.k (.k (.k (.k (.k (.k (.k (.d (Keep.refl _)))))))))) rfl rfl ?_
          refine lKeep (.k (.k (.d (.d (.d (.d (.d (.d (.d (.k (.k .n))))))))))) ?_
          refine lNil ?_
          refine xCode ?_
          refine cRet ?_
          exact rDone (rs := [.tmp 4, .tmp 5]) rfl (.t (.s .z) (.t .z .n)) hD (.inl rfl) (x16.1, x16.2) rfl (.c .z (.c .z (.c .z (.c .z .nil))))
        · refine cSeq ?_
          refine cRegionM [7] [(0, .early), (1, .early), (2, .early), (3, .early), (4, .early), (5, .early), (6, .early), (7, .only), (8, .quiet)] mixed (by kernel_rfl) (.c .z (.c .z (.c (.s (.s .z)) (.c .z (.c .z .nil))))) (.c (.c (.c .n))) ?_
          refine mRd rfl rfl (fun _ _ _ => dMove (.t (.s (.s (.s (.s .z)))))) rfl rfl ?_
          refine mRd rfl rfl (fun _ _ _ => dNil (.t .z)) rfl rfl ?_
          refine mRd rfl rfl (fun _ _ _ => dFld fld_97_0 (by decide) (.t .z) rfl) rfl rfl ?_
          refine mRd rfl rfl (fun _ _ _ => dLoad .z agg_35 (.t .z) rfl) rfl rfl ?_
          refine mCallQ rfl rfl fok_26 (.c (.t .z) .n) (screen_Screen_Plane_c a0.f_s b0_1 b0_2 v0_3) (.c (.s .z) (.c (.s (.s .z)) (.c (.s (.s .z)) .n))) (fun _ _ => rfl) (fun _ _ => (.c (.s (.s (.s .z))) (.c .z (.c (.s (.s .z)) (.c .z (.c .z .nil)))))) rfl rfl fun o18 h20 => ?_
          refine mRd rfl rfl (fun _ _ _ => dFld fld_23_0 (by decide) (.t (.s (.s (.s (.s (.s (.s (.s (.s .z))))))))) rfl) rfl rfl ?_
          refine mRd rfl rfl (fun _ _ _ => dLoad (.s (.s .z)) agg_3 (.t .z) rfl) rfl rfl ?_
          refine mCall rfl rfl fok_51 (.c (.t (.s (.s .z))) (.c (.t .z) .n)) (keyboard_move_c K a0.f_s.f_p a1.f_Kind b0_2 v0_3) (.c (.s (.s (.s .z))) (.c (.s (.s (.s .z))) .n)) (fun o21 x22 => (.c (.s (.s .z)) (.c (.s (.s .z)) (.c (.s (.s .z)) (.c .z (.c .z .nil)))))) (fun _ _ => (.c (.c (.c .n)))) rfl rfl fun o21 x22 h23  => ?_
          refine mRd rfl rfl (fun _ _ _ => dAssign (.t .z)) rfl rfl ?_
          refine mKeep (.k (.d (.d (.d (.d (.d (.d (.d (.d (.d (.k (.k (.k (.k .n)))))))))))))) ?_
          refine mNil ?_
          refine xCode ?_
          refine cCondB (.t .z) (fun h24 => ?_) (fun h24 => ?_)
          · refine cSeq ?_
            refine cRegion ?_
            refine lRdK (dAssign (.c rfl)) (.k (.k (.d (Keep.refl _)))) rfl rfl ?_
            refine lRdK (dAssign (.c rfl)) (.k (.k (.d (Keep.refl _)))) rfl rfl ?_
            refine lKeep (.k (.k (.d (.k (.k .n))))) ?_
            refine lNil ?_
            refine xCode ?_
            refine cRet ?_
            exact rDone (rs := [.tmp 4, .tmp 5]) rfl (.t (.s .z) (.t .z .n)) hD (.inl rfl) (b0_2, v0_3) rfl (.c .z (.c .z (.c (.s .z) (.c (.s .z) .nil))))
          · refine cSkip ?_
            refine xBlock ?_
            refine xCode ?_
            refine cSeq ?_
            refine cRegionM [5, 6] [(0, .quiet), (1, .quiet), (2, .quiet), (3, .early), (4, .early), (5, .only), (6, .only), (7, .quiet), (8, .quiet)] mixed (by kernel_rfl) (.c (.s (.s .z)) (.c .z (.c .z (.c .z (.c .z .nil))))) (.c .n) ?_
            refine mRd rfl rfl (fun _ _ _ => dMove (.t (.s (.s (.s (.s .z)))))) rfl rfl ?_
            refine mRd rfl rfl (fun _ _ _ => dNil (.t .z)) rfl rfl ?_
            refine mRd rfl rfl (fun _ _ _ => dFld fld_97_1 (by decide) (.t .z) rfl) rfl rfl ?_
            refine mRd rfl rfl (fun _ _ _ => dMove (.t (.s (.s (.s (.s (.s (.s (.s .z))))))))) rfl rfl ?_
            refine mRd rfl rfl (fun _ _ _ => dLoadA (us := [.int .i64 a1.f_Kind, vB a1.f_Byte]) .z agg_23 siz_23 rfl (.t (.s (.s (.s (.s (.s (.s (.s .z)))))))) rfl) rfl rfl ?_
            refine mCall rfl rfl fok_53 (.c (.t (.s .z)) (.c (.t .z) .n)) (keyboard_Keyboard_edit_c K (⟨(⟨a0.f_s.f_sizes_0, a0.f_s.f_sizes_1, a0.f_s.f_which, o21.1⟩ : screen_Screen), a0.f_l, a0.f_insert, a0.f_last⟩ : keyboard_Keyboard) a1 b0_0 b0_1 b0_2 v0_3) (.c (.s .z) (.c (.s .z) (.c (.s .z) (.c (.s .z) .n)))) (fun o25 x26 => (.c (.s (.s (.s (.s .z)))) (.c .z (.c .z (.c .z (.c .z .nil)))))) (fun _ _ => (.c .n)) rfl rfl fun o25 x26 h27  => ?_
            refine mCall rfl rfl fok_52 (.c (.t (.s (.s (.s .z)))) (.c (.t .z) .n)) (lock_Lock_Fail_v0_c o25.1 o25.2 b0_0 b0_1 b0_2 v0_3) (.c (.s .z) (.c (.s .z) (.c (.s .z) (.c (.s .z) .n)))) (fun o28 x29 => (.c (.s (.s (.s (.s .z)))) (.c .z (.c .z (.c .z (.c .z .nil)))))) (fun _ _ => (.c .n)) rfl rfl fun o28 x29 h30  => ?_
            refine mRdK rfl rfl (fun _ _ _ => dAssign (.c rfl)) (.k (.k (.k (.k (.k (.k (.k (.k (.k (.d (Keep.refl _))))))))))) rfl rfl ?_
            refine mRdK rfl rfl (fun _ _ _ => dAssign (.t (.s .z))) (.k (.k (.k (.k (.k (.k (.k (.k (.k (.d (Keep.refl _))))))))))) rfl rfl ?_
            refine mKeep (.k (.k .n)) ?_
            refine mNil ?_
            refine xCode ?_
            refine cRet ?_
            exact rDone (rs := [.tmp 4, .tmp 5]) rfl (.t (.s .z) (.t .z .n)) hD (.inl rfl) (b0_2, v0_3) rfl (.c (.s .z) (.c (.s .z) (.c (.s .z) (.c (.s .z) .nil))))

-- (*greenscreen/keyboard.Keyboard).Inserting
def keyboard_Keyboard_Inserting_m (a0 : keyboard_Keyboard) : Option (Bool) := some a0.f_insert
theorem keyboard_Keyboard_Inserting_c (a0 : keyboard_Keyboard) (b0_0 : Nat) (b0_1 : Nat) (b0_2 : Nat) (v0_3 : Value) : Con Tryz.prog 30 #[.pointer (some ⟨b0_0, 0, none⟩)] [.blk b0_0 [.pointer (some ⟨b0_1, 0, none⟩), .int .i64 a0.f_l.f_state, .int .i64 a0.f_l.f_why, .int .i64 a0.f_l.f_turns, .bool a0.f_insert, vB a0.f_last] 97, .blk b0_1 [.int .i64 a0.f_s.f_sizes_0.f_Rows, .int .i64 a0.f_s.f_sizes_0.f_Cols, .int .i64 a0.f_s.f_sizes_1.f_Rows, .int .i64 a0.f_s.f_sizes_1.f_Cols, .int .i64 a0.f_s.f_which, .pointer (some ⟨b0_2, 0, none⟩)] 124, .blk b0_2 [.int .i64 a0.f_s.f_p.f_size.f_Rows, .int .i64 a0.f_s.f_p.f_size.f_Cols, v0_3, .int .i64 a0.f_s.f_p.f_cursor] 126, .own v0_3 80 k_api_Cell a0.f_s.f_p.f_cells] (keyboard_Keyboard_Inserting_m a0) (fun (o : Bool) (x : Unit) => .bool o) (fun (o : Bool) (x : Unit) => [.blk b0_0 [.pointer (some ⟨b0_1, 0, none⟩), .int .i64 a0.f_l.f_state, .int .i64 a0.f_l.f_why, .int .i64 a0.f_l.f_turns, .bool a0.f_insert, vB a0.f_last] 97, .blk b0_1 [.int .i64 a0.f_s.f_sizes_0.f_Rows, .int .i64 a0.f_s.f_sizes_0.f_Cols, .int .i64 a0.f_s.f_sizes_1.f_Rows, .int .i64 a0.f_s.f_sizes_1.f_Cols, .int .i64 a0.f_s.f_which, .pointer (some ⟨b0_2, 0, none⟩)] 124, .blk b0_2 [.int .i64 a0.f_s.f_p.f_size.f_Rows, .int .i64 a0.f_s.f_p.f_size.f_Cols, v0_3, .int .i64 a0.f_s.f_p.f_cursor] 126, .own v0_3 80 k_api_Cell a0.f_s.f_p.f_cells]) := by
  unfold keyboard_Keyboard_Inserting_m
  refine con (args := [.pointer (some ⟨b0_0, 0, none⟩)]) Tryz.func30 rfl 7 rfl (.c .n) rfl fun c hD => ?_
  refine cSeq ?_
  refine cRegion ?_
  refine lRd (dAssign (.c rfl)) rfl rfl ?_
  refine lNil ?_
  refine xCode ?_
  refine cSeq ?_
  refine cRegion ?_
  refine lRd (dMove (.t (.s .z))) rfl rfl ?_
  refine lRd (dNil (.t .z)) rfl rfl ?_
  refine lRd (dFld fld_97_2 (by decide) (.t .z) rfl) rfl rfl ?_
  refine lRd (dLoad .z agg_4 (.t .z) rfl) rfl rfl ?_
  refine lRdK (dAssign (.t .z)) (.k (.k (.k (.k (.d (Keep.refl _)))))) rfl rfl ?_
  refine lKeep (.k .n) ?_
  refine lNil ?_
  refine xCode ?_
  refine cRet ?_
  exact rDone (rs := [.tmp 2]) rfl (.t .z .n) hD (.inl rfl) () rfl (.c .z (.c .z (.c .z (.c .z .nil))))

-- (*greenscreen/keyboard.Keyboard).Last
def keyboard_Keyboard_Last_m (a0 : keyboard_Keyboard) : Option (UInt8) := some a0.f_last
theorem keyboard_Keyboard_Last_c (a0 : keyboard_Keyboard) (b0_0 : Nat) (b0_1 : Nat) (b0_2 : Nat) (v0_3 : Value) : Con Tryz.prog 32 #[.pointer (some ⟨b0_0, 0, none⟩)] [.blk b0_0 [.pointer (some ⟨b0_1, 0, none⟩), .int .i64 a0.f_l.f_state, .int .i64 a0.f_l.f_why, .int .i64 a0.f_l.f_turns, .bool a0.f_insert, vB a0.f_last] 97, .blk b0_1 [.int .i64 a0.f_s.f_sizes_0.f_Rows, .int .i64 a0.f_s.f_sizes_0.f_Cols, .int .i64 a0.f_s.f_sizes_1.f_Rows, .int .i64 a0.f_s.f_sizes_1.f_Cols, .int .i64 a0.f_s.f_which, .pointer (some ⟨b0_2, 0, none⟩)] 124, .blk b0_2 [.int .i64 a0.f_s.f_p.f_size.f_Rows, .int .i64 a0.f_s.f_p.f_size.f_Cols, v0_3, .int .i64 a0.f_s.f_p.f_cursor] 126, .own v0_3 80 k_api_Cell a0.f_s.f_p.f_cells] (keyboard_Keyboard_Last_m a0) (fun (o : UInt8) (x : Unit) => vB o) (fun (o : UInt8) (x : Unit) => [.blk b0_0 [.pointer (some ⟨b0_1, 0, none⟩), .int .i64 a0.f_l.f_state, .int .i64 a0.f_l.f_why, .int .i64 a0.f_l.f_turns, .bool a0.f_insert, vB a0.f_last] 97, .blk b0_1 [.int .i64 a0.f_s.f_sizes_0.f_Rows, .int .i64 a0.f_s.f_sizes_0.f_Cols, .int .i64 a0.f_s.f_sizes_1.f_Rows, .int .i64 a0.f_s.f_sizes_1.f_Cols, .int .i64 a0.f_s.f_which, .pointer (some ⟨b0_2, 0, none⟩)] 124, .blk b0_2 [.int .i64 a0.f_s.f_p.f_size.f_Rows, .int .i64 a0.f_s.f_p.f_size.f_Cols, v0_3, .int .i64 a0.f_s.f_p.f_cursor] 126, .own v0_3 80 k_api_Cell a0.f_s.f_p.f_cells]) := by
  unfold keyboard_Keyboard_Last_m
  refine con (args := [.pointer (some ⟨b0_0, 0, none⟩)]) Tryz.func32 rfl 7 rfl (.c .n) rfl fun c hD => ?_
  refine cSeq ?_
  refine cRegion ?_
  refine lRd (dAssign (.c (v' := vB 0) rfl)) rfl rfl ?_
  refine lNil ?_
  refine xCode ?_
  refine cSeq ?_
  refine cRegion ?_
  refine lRd (dMove (.t (.s .z))) rfl rfl ?_
  refine lRd (dNil (.t .z)) rfl rfl ?_
  refine lRd (dFld fld_97_3 (by decide) (.t .z) rfl) rfl rfl ?_
  refine lRd (dLoad .z agg_5 (.t .z) rfl) rfl rfl ?_
  refine lRdK (dAssign (.t .z)) (.k (.k (.k (.k (.d (Keep.refl _)))))) rfl rfl ?_
  refine lKeep (.k .n) ?_
  refine lNil ?_
  refine xCode ?_
  refine cRet ?_
  exact rDone (rs := [.tmp 2]) rfl (.t .z .n) hD (.inl rfl) () rfl (.c .z (.c .z (.c .z (.c .z .nil))))

-- (*greenscreen/screen.Screen).renew
def screen_Screen_renew_v0_m (a0 : screen_Screen) (a1 : Int) : Option (screen_Screen) := (if a1 = 0 then (plane_New_m a0.f_sizes_0).bind fun o2 => some (⟨a0.f_sizes_0, a0.f_sizes_1, a1, o2.1⟩ : screen_Screen) else (if a1 = 1 then (plane_New_m a0.f_sizes_1).bind fun o6 => some (⟨a0.f_sizes_0, a0.f_sizes_1, a1, o6.1⟩ : screen_Screen) else none))
theorem screen_Screen_renew_v0_c (a0 : screen_Screen) (a1 : Int) (b0_0 : Nat) : Con Tryz.prog 118 #[.pointer (some ⟨b0_0, 0, none⟩), .int .i64 a1] [.blk b0_0 [.int .i64 a0.f_sizes_0.f_Rows, .int .i64 a0.f_sizes_0.f_Cols, .int .i64 a0.f_sizes_1.f_Rows, .int .i64 a0.f_sizes_1.f_Cols, .int .i64 a0.f_which, .pointer none] 124] (screen_Screen_renew_v0_m a0 a1) (fun (o : screen_Screen) (x : Nat × Value) => .tuple #[]) (fun (o : screen_Screen) (x : Nat × Value) => [.blk b0_0 [.int .i64 o.f_sizes_0.f_Rows, .int .i64 o.f_sizes_0.f_Cols, .int .i64 o.f_sizes_1.f_Rows, .int .i64 o.f_sizes_1.f_Cols, .int .i64 o.f_which, .pointer (some ⟨x.1, 0, none⟩)] 124, .blk x.1 [.int .i64 o.f_p.f_size.f_Rows, .int .i64 o.f_p.f_size.f_Cols, x.2, .int .i64 o.f_p.f_cursor] 126, .own x.2 80 k_api_Cell o.f_p.f_cells]) := by
  unfold screen_Screen_renew_v0_m
  refine con (args := [.pointer (some ⟨b0_0, 0, none⟩), .int .i64 a1]) Tryz.func118 rfl 21 rfl (.c (.c .n)) rfl fun c hD => ?_
  refine cSeq ?_
  refine cRegion ?_
  refine lRd (dMove (.t .z)) rfl rfl ?_
  refine lRd (dMove (.t (.s (.s .z)))) rfl rfl ?_
  refine lRd (dNil (.t (.s .z))) rfl rfl ?_
  refine lRd (dFld fld_124_1 (by decide) (.t .z) rfl) rfl rfl ?_
  refine lChU (uStore .z siz_3 rfl (.s (.s (.s (.s .z)))) (.t .z) (.t (.s (.s .z)))) ?_
  refine lKeep (.d (.d (.d (.d (.k (.k .n)))))) ?_
  refine lNil ?_
  refine xCode ?_
  refine cRegion ?_
  refine lRd (dMove (.t .z)) rfl rfl ?_
  refine lRd (dMove (.t (.s .z))) rfl rfl ?_
  refine lRd (dMove (.t (.s (.s (.s .z))))) rfl rfl ?_
  refine lRd (dNil (.t (.s .z))) rfl rfl ?_
  refine lRd (dFld fld_124_0 (by decide) (.t .z) rfl) rfl rfl ?_
  refine lCase (fun h1 => ?_) (fun h1 => ?_)
  · refine lRd (dIxArrV h1 und_122 siz_33 (.t .z) (.t (.s (.s .z))) (by decide) (by decide)) rfl rfl ?_
    refine lRd (dLoadA (us := [.int .i64 a0.f_sizes_0.f_Rows, .int .i64 a0.f_sizes_0.f_Cols]) .z agg_33 siz_33 rfl (.t .z) rfl) rfl rfl ?_
    refine lCall fok_158 (.c (.t .z) .n) (plane_New_c a0.f_sizes_0) .n rfl rfl fun o2 x3 h4 => ?_
    refine lRd (dMove (.t .z)) rfl rfl ?_
    refine lRd (dExtract (.t .z) rfl) rfl rfl ?_
    refine lRdN (dExtract (.t (.s .z)) rfl) rfl ?_
    refine lRd (dNil (.t (.s (.s (.s (.s (.s (.s (.s (.s (.s .z))))))))))) rfl rfl ?_
    refine lRd (dFld fld_124_2 (by decide) (.t .z) rfl) rfl rfl ?_
    refine lChU (uStore (.s (.s .z)) siz_70 rfl (.s (.s (.s (.s (.s .z))))) (.t .z) (.t (.s (.s .z)))) ?_
    refine lKeep .n ?_
    refine lNil ?_
    exact xDone (rs := []) rfl .n hD (x3.1, x3.2) rfl (.c (.s (.s .z)) (.c .z (.c .z .nil)))
  · refine lCase (fun h5 => ?_) (fun h5 => ?_)
    · refine lRd (dIxArrV h5 und_122 siz_33 (.t .z) (.t (.s (.s .z))) (by decide) (by decide)) rfl rfl ?_
      refine lRd (dLoadA (us := [.int .i64 a0.f_sizes_1.f_Rows, .int .i64 a0.f_sizes_1.f_Cols]) .z agg_33 siz_33 rfl (.t .z) rfl) rfl rfl ?_
      refine lCall fok_158 (.c (.t .z) .n) (plane_New_c a0.f_sizes_1) .n rfl rfl fun o6 x7 h8 => ?_
      refine lRd (dMove (.t .z)) rfl rfl ?_
      refine lRd (dExtract (.t .z) rfl) rfl rfl ?_
      refine lRdN (dExtract (.t (.s .z)) rfl) rfl ?_
      refine lRd (dNil (.t (.s (.s (.s (.s (.s (.s (.s (.s (.s .z))))))))))) rfl rfl ?_
      refine lRd (dFld fld_124_2 (by decide) (.t .z) rfl) rfl rfl ?_
      refine lChU (uStore (.s (.s .z)) siz_70 rfl (.s (.s (.s (.s (.s .z))))) (.t .z) (.t (.s (.s .z)))) ?_
      refine lKeep .n ?_
      refine lNil ?_
      exact xDone (rs := []) rfl .n hD (x7.1, x7.2) rfl (.c (.s (.s .z)) (.c .z (.c .z .nil)))
    · exact lStuck

-- (*greenscreen/screen.Screen).Clear
def screen_Screen_Clear_v0_m (a0 : screen_Screen) : Option (screen_Screen) := (screen_Screen_renew_v0_m (⟨a0.f_sizes_0, a0.f_sizes_1, a0.f_which, (default : plane_Plane)⟩ : screen_Screen) 0).bind fun o1 => some o1
theorem screen_Screen_Clear_v0_c (a0 : screen_Screen) (b0_0 : Nat) : Con Tryz.prog 74 #[.pointer (some ⟨b0_0, 0, none⟩)] [.blk b0_0 [.int .i64 a0.f_sizes_0.f_Rows, .int .i64 a0.f_sizes_0.f_Cols, .int .i64 a0.f_sizes_1.f_Rows, .int .i64 a0.f_sizes_1.f_Cols, .int .i64 a0.f_which, .pointer none] 124] (screen_Screen_Clear_v0_m a0) (fun (o : screen_Screen) (x : Nat × Value) => .tuple #[]) (fun (o : screen_Screen) (x : Nat × Value) => [.blk b0_0 [.int .i64 o.f_sizes_0.f_Rows, .int .i64 o.f_sizes_0.f_Cols, .int .i64 o.f_sizes_1.f_Rows, .int .i64 o.f_sizes_1.f_Cols, .int .i64 o.f_which, .pointer (some ⟨x.1, 0, none⟩)] 124, .blk x.1 [.int .i64 o.f_p.f_size.f_Rows, .int .i64 o.f_p.f_size.f_Cols, x.2, .int .i64 o.f_p.f_cursor] 126, .own x.2 80 k_api_Cell o.f_p.f_cells]) := by
  unfold screen_Screen_Clear_v0_m
  refine con (args := [.pointer (some ⟨b0_0, 0, none⟩)]) Tryz.func74 rfl 4 rfl (.c .n) rfl fun c hD => ?_
  refine cRegion ?_
  refine lRd (dMove (.t .z)) rfl rfl ?_
  refine lCallN fok_118 (.c (.t .z) (.c (.c rfl) .n)) (screen_Screen_renew_v0_c (⟨a0.f_sizes_0, a0.f_sizes_1, a0.f_which, (default : plane_Plane)⟩ : screen_Screen) 0 b0_0) (.c .z .n) rfl fun o1 x2 h3 => ?_
  refine lKeep .n ?_
  refine lNil ?_
  exact xDone (rs := []) rfl .n hD (x2.1, x2.2) rfl (.c .z (.c .z (.c .z .nil)))

-- greenscreen/screen.New
def screen_New_m (a0 : api_Size) (a1 : api_Size) : Option (screen_Screen × Int) := ((addr_Cells_m a0).bind fun o3 => (if o3 = 0 then some true else (addr_Cells_m a1).bind fun o7 => some (decide (o7 = 0)))).bind fun (s10 : Bool) => (if s10 = true then none else (screen_Screen_Clear_v0_m (⟨a0, a1, 0, (default : plane_Plane)⟩ : screen_Screen)).bind fun o14 => some (o14, 0))
theorem screen_New_c (a0 : api_Size) (a1 : api_Size) : Con Tryz.prog 34 #[.agg #[.int .i64 a0.f_Rows, .int .i64 a0.f_Cols], .agg #[.int .i64 a1.f_Rows, .int .i64 a1.f_Cols]] [] (screen_New_m a0 a1) (fun (o : screen_Screen × Int) (x : Nat × Nat × Value) => .tuple #[.pointer (some ⟨x.1, 0, none⟩), .int .i64 o.2]) (fun (o : screen_Screen × Int) (x : Nat × Nat × Value) => [.blk x.1 [.int .i64 o.1.f_sizes_0.f_Rows, .int .i64 o.1.f_sizes_0.f_Cols, .int .i64 o.1.f_sizes_1.f_Rows, .int .i64 o.1.f_sizes_1.f_Cols, .int .i64 o.1.f_which, .pointer (some ⟨x.2.1, 0, none⟩)] 124, .blk x.2.1 [.int .i64 o.1.f_p.f_size.f_Rows, .int .i64 o.1.f_p.f_size.f_Cols, x.2.2, .int .i64 o.1.f_p.f_cursor] 126, .own x.2.2 80 k_api_Cell o.1.f_p.f_cells]) := by
  unfold screen_New_m
  refine con (args := [.agg #[.int .i64 a0.f_Rows, .int .i64 a0.f_Cols], .agg #[.int .i64 a1.f_Rows, .int .i64 a1.f_Cols]]) Tryz.func34 rfl 23 rfl (.c (.c .n)) rfl fun c hD => ?_
  refine cSeq ?_
  refine cRegion ?_
  refine lCh (cBox (cs := [.int .i64 a0.f_Rows, .int .i64 a0.f_Cols]) (.t .z) rfl) rfl rfl fun b1 => ?_
  refine lCh (cBox (cs := [.int .i64 a1.f_Rows, .int .i64 a1.f_Cols]) (.t (.s (.s .z))) rfl) rfl rfl fun b2 => ?_
  refine lRd (dAssign (.c rfl)) rfl rfl ?_
  refine lRd (dAssign (.c rfl)) rfl rfl ?_
  refine lKeep (.k (.k (.k (.k .n)))) ?_
  refine lNil ?_
  refine xCode ?_
  refine cSeq ?_
  refine cSeq ?_
  refine cJoin (S := Bool) (X := Unit) (fun (s : Bool) (x : Unit) => [(14, .bool s), (5, .int .i64 0), (4, .pointer none), (3, .pointer (some ⟨b2, 0, none⟩)), (2, .pointer (some ⟨b1, 0, none⟩))]) (fun (s : Bool) (x : Unit) => [.blk b2 [.int .i64 a1.f_Rows, .int .i64 a1.f_Cols] 33, .blk b1 [.int .i64 a0.f_Rows, .int .i64 a0.f_Cols] 33]) ?_ (fun s10 x11 => ?_)
  · refine cRegion ?_
    refine lRd (dLoadA (us := [.int .i64 a0.f_Rows, .int .i64 a0.f_Cols]) (.s .z) agg_33 siz_33 rfl (.t (.s (.s (.s .z)))) rfl) rfl rfl ?_
    refine lCall fok_73 (.c (.t .z) .n) (addr_Cells_c a0) .n rfl rfl fun o3 x4 h5 => ?_
    refine lRd (dEq (.t .z) (.c rfl)) rfl rfl ?_
    refine lRd (dMove (.t .z)) rfl rfl ?_
    refine lCase (fun h6 => ?_) (fun h6 => ?_)
    · refine lPass rfl .z (nbF (decide_eq_true h6)) rfl ?_
      refine lPass rfl .z (nbF (decide_eq_true h6)) rfl ?_
      refine lPass rfl .z (nbF (decide_eq_true h6)) rfl ?_
      refine lRd (dPickT (.t .z) (decide_eq_true h6) (.c rfl)) rfl rfl ?_
      refine lKeep (.k (.d (.d (.d (.d (.k (.k (.k (.k .n))))))))) ?_
      refine lNil ?_
      exact xJoin true () (.c .z (.c (.s .z) (.c (.s (.s .z)) (.c (.s (.s (.s .z))) (.c (.s (.s (.s (.s .z)))) .n))))) (.c .z (.c .z .nil))
    · refine lRdG rfl .z (decide_eq_false h6) (dLoadA (us := [.int .i64 a1.f_Rows, .int .i64 a1.f_Cols]) .z agg_33 siz_33 rfl (.t (.s (.s (.s (.s (.s (.s .z))))))) rfl) rfl rfl ?_
      refine lCallG rfl (.s .z) (decide_eq_false h6) fok_73 (.c (.t .z) .n) (addr_Cells_c a1) .n rfl rfl fun o7 x8 h9 => ?_
      refine lRdG rfl (.s (.s .z)) (decide_eq_false h6) (dEq (.t .z) (.c rfl)) rfl rfl ?_
      refine lRd (dPickF (.t (.s (.s (.s .z)))) (decide_eq_false h6) (.t .z)) rfl rfl ?_
      refine lKeep (.k (.d (.d (.d (.d (.d (.d (.d (.k (.k (.k (.k .n)))))))))))) ?_
      refine lNil ?_
      exact xJoin (decide (o7 = 0)) () (.c .z (.c (.s .z) (.c (.s (.s .z)) (.c (.s (.s (.s .z))) (.c (.s (.s (.s (.s .z)))) .n))))) (.c .z (.c .z .nil))
  · refine xCode ?_
    refine cCondB (.t .z) (fun h12 => ?_) (fun h12 => ?_)
    · refine cSeq ?_
      refine cRegion ?_
      refine lRdK (dAssign (.c rfl)) (.k (.k (.d (Keep.refl _)))) rfl rfl ?_
      refine lRdK (dAssign (.c rfl)) (.k (.k (.d (Keep.refl _)))) rfl rfl ?_
      refine lKeep (.k (.k (.d (.k (.k .n))))) ?_
      refine lNil ?_
      refine xCode ?_
      exact cStuck
    · refine cSkip ?_
      refine xCode ?_
      refine cSeq ?_
      refine cRegion ?_
      refine lRd (dLoadA (us := [.int .i64 a0.f_Rows, .int .i64 a0.f_Cols]) (.s .z) agg_33 siz_33 rfl (.t (.s (.s (.s (.s .z))))) rfl) rfl rfl ?_
      refine lRd (dLoadA (us := [.int .i64 a1.f_Rows, .int .i64 a1.f_Cols]) .z agg_33 siz_33 rfl (.t (.s (.s (.s (.s .z))))) rfl) rfl rfl ?_
      refine lRd (dBuildArr (cs := [.int .i64 a0.f_Rows, .int .i64 a0.f_Cols, .int .i64 a1.f_Rows, .int .i64 a1.f_Cols]) zer_122 rfl und_122 siz_33 (.c (.t (.s .z)) (.c (.t .z) .n)) rfl) rfl rfl ?_
      refine lRd (dBuild (cs := [.int .i64 a0.f_Rows, .int .i64 a0.f_Cols, .int .i64 a1.f_Rows, .int .i64 a1.f_Cols, .int .i64 0, .pointer none]) zer_124 rfl plc_124 (.c (.t .z) .n) rfl) rfl rfl ?_
      refine lCh (cBox (cs := [.int .i64 a0.f_Rows, .int .i64 a0.f_Cols, .int .i64 a1.f_Rows, .int .i64 a1.f_Cols, .int .i64 0, .pointer none]) (.t .z) rfl) rfl rfl fun b13 => ?_
      refine lRd (dAssign (.t .z)) rfl rfl ?_
      refine lKeep (.k (.d (.d (.d (.d (.d (.d (.k (.k .n))))))))) ?_
      refine lNil ?_
      refine xCode ?_
      refine cSeq ?_
      refine cRegion ?_
      refine lRd (dMove (.t .z)) rfl rfl ?_
      refine lCallN fok_74 (.c (.t .z) .n) (screen_Screen_Clear_v0_c (⟨a0, a1, 0, (default : plane_Plane)⟩ : screen_Screen) b13) (.c .z .n) rfl fun o14 x15 h16 => ?_
      refine lKeep (.d (.k (.k (.k .n)))) ?_
      refine lNil ?_
      refine xCode ?_
      refine cSeq ?_
      refine cRegion ?_
      refine lRd (dMove (.t .z)) rfl rfl ?_
      refine lRdK (dAssign (.t .z)) (.k (.k (.k (.d (Keep.refl _))))) rfl rfl ?_
      refine lRdK (dAssign (.c rfl)) (.k (.k (.k (.d (Keep.refl _))))) rfl rfl ?_
      refine lKeep (.k (.k .n)) ?_
      refine lNil ?_
      refine xCode ?_
      refine cRet ?_
      exact rDone (rs := [.tmp 4, .tmp 5]) rfl (.t (.s .z) (.t .z .n)) hD (.inl rfl) (b13, x15.1, x15.2) rfl (.c .z (.c .z (.c .z .nil)))

def screen_New_nil_m (a0 : api_Size) (a1 : api_Size) : Option (Int) := ((addr_Cells_m a0).bind fun o3 => (if o3 = 0 then some true else (addr_Cells_m a1).bind fun o7 => some (decide (o7 = 0)))).bind fun (s10 : Bool) => (if s10 = true then some 1 else (screen_Screen_Clear_v0_m (⟨a0, a1, 0, (default : plane_Plane)⟩ : screen_Screen)).bind fun o14 => none)
theorem screen_New_nil_c (a0 : api_Size) (a1 : api_Size) : Con Tryz.prog 34 #[.agg #[.int .i64 a0.f_Rows, .int .i64 a0.f_Cols], .agg #[.int .i64 a1.f_Rows, .int .i64 a1.f_Cols]] [] (screen_New_nil_m a0 a1) (fun (o : Int) (x : Unit) => .tuple #[.pointer none, .int .i64 o]) (fun (o : Int) (x : Unit) => []) := by
  unfold screen_New_nil_m
  refine con (args := [.agg #[.int .i64 a0.f_Rows, .int .i64 a0.f_Cols], .agg #[.int .i64 a1.f_Rows, .int .i64 a1.f_Cols]]) Tryz.func34 rfl 23 rfl (.c (.c .n)) rfl fun c hD => ?_
  refine cSeq ?_
  refine cRegion ?_
  refine lCh (cBox (cs := [.int .i64 a0.f_Rows, .int .i64 a0.f_Cols]) (.t .z) rfl) rfl rfl fun b1 => ?_
  refine lCh (cBox (cs := [.int .i64 a1.f_Rows, .int .i64 a1.f_Cols]) (.t (.s (.s .z))) rfl) rfl rfl fun b2 => ?_
  refine lRd (dAssign (.c rfl)) rfl rfl ?_
  refine lRd (dAssign (.c rfl)) rfl rfl ?_
  refine lKeep (.k (.k (.k (.k .n)))) ?_
  refine lNil ?_
  refine xCode ?_
  refine cSeq ?_
  refine cSeq ?_
  refine cJoin (S := Bool) (X := Unit) (fun (s : Bool) (x : Unit) => [(14, .bool s), (5, .int .i64 0), (4, .pointer none), (3, .pointer (some ⟨b2, 0, none⟩)), (2, .pointer (some ⟨b1, 0, none⟩))]) (fun (s : Bool) (x : Unit) => [.blk b2 [.int .i64 a1.f_Rows, .int .i64 a1.f_Cols] 33, .blk b1 [.int .i64 a0.f_Rows, .int .i64 a0.f_Cols] 33]) ?_ (fun s10 x11 => ?_)
  · refine cRegion ?_
    refine lRd (dLoadA (us := [.int .i64 a0.f_Rows, .int .i64 a0.f_Cols]) (.s .z) agg_33 siz_33 rfl (.t (.s (.s (.s .z)))) rfl) rfl rfl ?_
    refine lCall fok_73 (.c (.t .z) .n) (addr_Cells_c a0) .n rfl rfl fun o3 x4 h5 => ?_
    refine lRd (dEq (.t .z) (.c rfl)) rfl rfl ?_
    refine lRd (dMove (.t .z)) rfl rfl ?_
    refine lCase (fun h6 => ?_) (fun h6 => ?_)
    · refine lPass rfl .z (nbF (decide_eq_true h6)) rfl ?_
      refine lPass rfl .z (nbF (decide_eq_true h6)) rfl ?_
      refine lPass rfl .z (nbF (decide_eq_true h6)) rfl ?_
      refine lRd (dPickT (.t .z) (decide_eq_true h6) (.c rfl)) rfl rfl ?_
      refine lKeep (.k (.d (.d (.d (.d (.k (.k (.k (.k .n))))))))) ?_
      refine lNil ?_
      exact xJoin true () (.c .z (.c (.s .z) (.c (.s (.s .z)) (.c (.s (.s (.s .z))) (.c (.s (.s (.s (.s .z)))) .n))))) (.c .z (.c .z .nil))
    · refine lRdG rfl .z (decide_eq_false h6) (dLoadA (us := [.int .i64 a1.f_Rows, .int .i64 a1.f_Cols]) .z agg_33 siz_33 rfl (.t (.s (.s (.s (.s (.s (.s .z))))))) rfl) rfl rfl ?_
      refine lCallG rfl (.s .z) (decide_eq_false h6) fok_73 (.c (.t .z) .n) (addr_Cells_c a1) .n rfl rfl fun o7 x8 h9 => ?_
      refine lRdG rfl (.s (.s .z)) (decide_eq_false h6) (dEq (.t .z) (.c rfl)) rfl rfl ?_
      refine lRd (dPickF (.t (.s (.s (.s .z)))) (decide_eq_false h6) (.t .z)) rfl rfl ?_
      refine lKeep (.k (.d (.d (.d (.d (.d (.d (.d (.k (.k (.k (.k .n)))))))))))) ?_
      refine lNil ?_
      exact xJoin (decide (o7 = 0)) () (.c .z (.c (.s .z) (.c (.s (.s .z)) (.c (.s (.s (.s .z))) (.c (.s (.s (.s (.s .z)))) .n))))) (.c .z (.c .z .nil))
  · refine xCode ?_
    refine cCondB (.t .z) (fun h12 => ?_) (fun h12 => ?_)
    · refine cSeq ?_
      refine cRegion ?_
      refine lRdK (dAssign (.c rfl)) (.k (.k (.d (Keep.refl _)))) rfl rfl ?_
      refine lRdK (dAssign (.c rfl)) (.k (.k (.d (Keep.refl _)))) rfl rfl ?_
      refine lKeep (.k (.k (.d (.k (.k .n))))) ?_
      refine lNil ?_
      refine xCode ?_
      refine cRet ?_
      exact rDone (rs := [.tmp 4, .tmp 5]) rfl (.t (.s .z) (.t .z .n)) hD (.inl rfl) () rfl .nil
    · refine cSkip ?_
      refine xCode ?_
      refine cSeq ?_
      refine cRegion ?_
      refine lRd (dLoadA (us := [.int .i64 a0.f_Rows, .int .i64 a0.f_Cols]) (.s .z) agg_33 siz_33 rfl (.t (.s (.s (.s (.s .z))))) rfl) rfl rfl ?_
      refine lRd (dLoadA (us := [.int .i64 a1.f_Rows, .int .i64 a1.f_Cols]) .z agg_33 siz_33 rfl (.t (.s (.s (.s (.s .z))))) rfl) rfl rfl ?_
      refine lRd (dBuildArr (cs := [.int .i64 a0.f_Rows, .int .i64 a0.f_Cols, .int .i64 a1.f_Rows, .int .i64 a1.f_Cols]) zer_122 rfl und_122 siz_33 (.c (.t (.s .z)) (.c (.t .z) .n)) rfl) rfl rfl ?_
      refine lRd (dBuild (cs := [.int .i64 a0.f_Rows, .int .i64 a0.f_Cols, .int .i64 a1.f_Rows, .int .i64 a1.f_Cols, .int .i64 0, .pointer none]) zer_124 rfl plc_124 (.c (.t .z) .n) rfl) rfl rfl ?_
      refine lCh (cBox (cs := [.int .i64 a0.f_Rows, .int .i64 a0.f_Cols, .int .i64 a1.f_Rows, .int .i64 a1.f_Cols, .int .i64 0, .pointer none]) (.t .z) rfl) rfl rfl fun b13 => ?_
      refine lRd (dAssign (.t .z)) rfl rfl ?_
      refine lKeep (.k (.d (.d (.d (.d (.d (.d (.k (.k .n))))))))) ?_
      refine lNil ?_
      refine xCode ?_
      refine cSeq ?_
      refine cRegion ?_
      refine lRd (dMove (.t .z)) rfl rfl ?_
      refine lCallN fok_74 (.c (.t .z) .n) (screen_Screen_Clear_v0_c (⟨a0, a1, 0, (default : plane_Plane)⟩ : screen_Screen) b13) (.c .z .n) rfl fun o14 x15 h16 => ?_
      refine lKeep (.d (.k (.k (.k .n)))) ?_
      refine lNil ?_
      refine xCode ?_
      refine cSeq ?_
      refine cRegion ?_
      refine lRd (dMove (.t .z)) rfl rfl ?_
      refine lRdK (dAssign (.t .z)) (.k (.k (.k (.d (Keep.refl _))))) rfl rfl ?_
      refine lRdK (dAssign (.c rfl)) (.k (.k (.k (.d (Keep.refl _))))) rfl rfl ?_
      refine lKeep (.k (.k .n)) ?_
      refine lNil ?_
      refine xCode ?_
      exact cStuck

-- greenscreen/keyboard.New
def keyboard_New_m (a0 : screen_Screen) : Option (keyboard_Keyboard) := some (⟨a0, (⟨0, 0, 0⟩ : lock_Lock), false, (96 : UInt8)⟩ : keyboard_Keyboard)
theorem keyboard_New_c (a0 : screen_Screen) (b0_0 : Nat) (b0_1 : Nat) (v0_2 : Value) : Con Tryz.prog 35 #[.pointer (some ⟨b0_0, 0, none⟩)] [.blk b0_0 [.int .i64 a0.f_sizes_0.f_Rows, .int .i64 a0.f_sizes_0.f_Cols, .int .i64 a0.f_sizes_1.f_Rows, .int .i64 a0.f_sizes_1.f_Cols, .int .i64 a0.f_which, .pointer (some ⟨b0_1, 0, none⟩)] 124, .blk b0_1 [.int .i64 a0.f_p.f_size.f_Rows, .int .i64 a0.f_p.f_size.f_Cols, v0_2, .int .i64 a0.f_p.f_cursor] 126, .own v0_2 80 k_api_Cell a0.f_p.f_cells] (keyboard_New_m a0) (fun (o : keyboard_Keyboard) (x : Nat) => .pointer (some ⟨x, 0, none⟩)) (fun (o : keyboard_Keyboard) (x : Nat) => [.blk b0_0 [.int .i64 a0.f_sizes_0.f_Rows, .int .i64 a0.f_sizes_0.f_Cols, .int .i64 a0.f_sizes_1.f_Rows, .int .i64 a0.f_sizes_1.f_Cols, .int .i64 a0.f_which, .pointer (some ⟨b0_1, 0, none⟩)] 124, .blk b0_1 [.int .i64 a0.f_p.f_size.f_Rows, .int .i64 a0.f_p.f_size.f_Cols, v0_2, .int .i64 a0.f_p.f_cursor] 126, .own v0_2 80 k_api_Cell a0.f_p.f_cells, .blk x [.pointer (some ⟨b0_0, 0, none⟩), .int .i64 o.f_l.f_state, .int .i64 o.f_l.f_why, .int .i64 o.f_l.f_turns, .bool o.f_insert, vB o.f_last] 97]) := by
  unfold keyboard_New_m
  refine con (args := [.pointer (some ⟨b0_0, 0, none⟩)]) Tryz.func35 rfl 6 rfl (.c .n) rfl fun c hD => ?_
  refine cSeq ?_
  refine cRegion ?_
  refine lRd (dAssign (.c rfl)) rfl rfl ?_
  refine lNil ?_
  refine xCode ?_
  refine cSeq ?_
  refine cRegion ?_
  refine lRd (dMove (.t (.s .z))) rfl rfl ?_
  refine lRd (dBuild (cs := [.pointer (some ⟨b0_0, 0, none⟩), .int .i64 0, .int .i64 0, .int .i64 0, .bool false, vB (96 : UInt8)]) zer_97 rfl plc_97 (.c (.t .z) (.c (.c (v' := vB 96) rfl) .n)) rfl) rfl rfl ?_
  refine lCh (cBox (cs := [.pointer (some ⟨b0_0, 0, none⟩), .int .i64 0, .int .i64 0, .int .i64 0, .bool false, vB (96 : UInt8)]) (.t .z) rfl) rfl rfl fun b1 => ?_
  refine lRdK (dAssign (.t .z)) (.k (.k (.k (.d (Keep.refl _))))) rfl rfl ?_
  refine lKeep (.k .n) ?_
  refine lNil ?_
  refine xCode ?_
  refine cRet ?_
  exact rDone (rs := [.tmp 2]) rfl (.t .z .n) hD (.inl rfl) b1 rfl (.c (.s .z) (.c (.s .z) (.c (.s .z) (.c .z .nil))))

end Go.Proofs.YtecipnjloenndaaGreatDoor.G
