/-
The walk of the seat, by program: each function's model, and its contract. Part 4.
-/
import Derived.Test.YtecipnjloenndaaScrG3
import Derived.Test.YtecipnjloenndaaProg
set_option linter.unusedVariables false
set_option linter.unusedSimpArgs false
set_option maxRecDepth 20000
set_option maxHeartbeats 2000000
namespace Go.Proofs.Ytecipnjloenndaa.G
open Go Go.RowKit Go.Proofs.Ytecipnjloenndaa.SX
-- greenscreen/greenscreenlaw18.ScreenSizes
def law18_ScreenSizes_l1 (K : Nat) (a0 : api_Size) (a1 : api_Size) (a2 : (List (List UInt8))) : Nat → (Int × Int × Int × Int × Int × Int × Int × Int × (List api_Cell) × Int) → Option (Sum (Int × Int × Int × Int × Int × Int × Int × (List api_Cell) × Int) (Bool))
  | 0, _ => none
  | n + 1, s18 => (if s18.1 < (a2.length : Int) then (ix a2 s18.1).bind fun y24 => (if (y24.length : Int) > 200 then some (Sum.inr true) else (screen_Screen_Run_m K (⟨(⟨s18.2.1, s18.2.2.1⟩ : api_Size), (⟨s18.2.2.2.1, s18.2.2.2.2.1⟩ : api_Size), s18.2.2.2.2.2.1, (⟨(⟨s18.2.2.2.2.2.2.1, s18.2.2.2.2.2.2.2.1⟩ : api_Size), s18.2.2.2.2.2.2.2.2.1, s18.2.2.2.2.2.2.2.2.2⟩ : plane_Plane)⟩ : screen_Screen) y24).bind fun o29 => ((screen_Screen_Plane_m o29.1).bind fun o32 => (plane_Plane_Size_m o29.1.f_p).bind fun o35 => (if (!decide (o35 = a0)) = true then (screen_Screen_Other_m o29.1).bind fun o39 => (if (!o39) = true then some (true, (!o39), (!o39), (!decide (o35 = a0)), (!decide (o35 = a0)), o35.f_Rows, o35.f_Cols) else (screen_Screen_Plane_m o29.1).bind fun o43 => (plane_Plane_Size_m o29.1.f_p).bind fun o46 => (if (!decide (o46 = a1)) = true then (screen_Screen_Other_m o29.1).bind fun o50 => some (o50, (!o39), (!o39), (!decide (o35 = a0)), (!decide (o35 = a0)), o35.f_Rows, o35.f_Cols) else some (false, (!o39), (!o39), (!decide (o35 = a0)), (!decide (o35 = a0)), o35.f_Rows, o35.f_Cols))) else (screen_Screen_Plane_m o29.1).bind fun o53 => (plane_Plane_Size_m o29.1.f_p).bind fun o56 => (if (!decide (o56 = a1)) = true then (screen_Screen_Other_m o29.1).bind fun o60 => some (o60, false, false, (!decide (o35 = a0)), (!decide (o35 = a0)), o35.f_Rows, o35.f_Cols) else some (false, false, false, (!decide (o35 = a0)), (!decide (o35 = a0)), o35.f_Rows, o35.f_Cols)))).bind fun (s63 : Bool × Bool × Bool × Bool × Bool × Int × Int) => (if s63.1 = true then some (Sum.inr false) else (law18_ScreenSizes_l1 K a0 a1 a2 n) (w64 (s18.1 + 1), o29.1.f_sizes_0.f_Rows, o29.1.f_sizes_0.f_Cols, o29.1.f_sizes_1.f_Rows, o29.1.f_sizes_1.f_Cols, o29.1.f_which, o29.1.f_p.f_size.f_Rows, o29.1.f_p.f_size.f_Cols, o29.1.f_p.f_cells, o29.1.f_p.f_cursor))) else some (Sum.inl (s18.2.1, s18.2.2.1, s18.2.2.2.1, s18.2.2.2.2.1, s18.2.2.2.2.2.1, s18.2.2.2.2.2.2.1, s18.2.2.2.2.2.2.2.1, s18.2.2.2.2.2.2.2.2.1, s18.2.2.2.2.2.2.2.2.2)))
def law18_ScreenSizes_l2 (K : Nat) (o69 : (screen_Screen × screen_Result)) (o75 : (Int)) : Nat → (Int) → Option (Sum (Unit) (Bool))
  | 0, _ => none
  | n + 1, s78 => (if s78 < o75 then (screen_Screen_Plane_m o69.1).bind fun o84 => (plane_Plane_At_m o69.1.f_p s78).bind fun o87 => ((if o87.f_Start = true then some (decide ((o87.f_Byte &&& (1 : UInt8)) = (1 : UInt8))) else some false)).bind fun (s92 : Bool) => (if s92 = true then some (Sum.inr false) else (law18_ScreenSizes_l2 K o69 o75 n) (w64 (s78 + 1))) else some (Sum.inl ()))
def law18_ScreenSizes_l3 (K : Nat) (a2 : (List (List UInt8))) : Nat → (Unit) → Option (Sum (Unit) (Bool))
  | 0, _ => none
  | n + 1, s137 => (if 0 < (a2.length : Int) then (ix a2 0).bind fun y143 => (if (y143.length : Int) > 200 then some (Sum.inr true) else none) else some (Sum.inl ()))
def law18_ScreenSizes_m (K : Nat) (a0 : api_Size) (a1 : api_Size) (a2 : (List (List UInt8))) : Option (Bool) := (law18_alive_m K).bind fun o3 => (if (!o3) = true then some false else (law18_made_m a0 a1).bind (onE (fun (o7 : screen_Screen × ref18_Screen) => (some ()).bind fun (s15 : Unit) => (if (a2.length : Int) > 8 then some true else (law18_ScreenSizes_l1 K a0 a1 a2 K (0, o7.1.f_sizes_0.f_Rows, o7.1.f_sizes_0.f_Cols, o7.1.f_sizes_1.f_Rows, o7.1.f_sizes_1.f_Cols, o7.1.f_which, o7.1.f_p.f_size.f_Rows, o7.1.f_p.f_size.f_Cols, o7.1.f_p.f_cells, o7.1.f_p.f_cursor)).bind (onS fun (s66 : Int × Int × Int × Int × Int × Int × Int × (List api_Cell) × Int) => (screen_Screen_Run_m K (⟨(⟨s66.1, s66.2.1⟩ : api_Size), (⟨s66.2.2.1, s66.2.2.2.1⟩ : api_Size), s66.2.2.2.2.1, (⟨(⟨s66.2.2.2.2.2.1, s66.2.2.2.2.2.2.1⟩ : api_Size), s66.2.2.2.2.2.2.2.1, s66.2.2.2.2.2.2.2.2⟩ : plane_Plane)⟩ : screen_Screen) ([(241 : UInt8), (1 : UInt8)] : List UInt8)).bind fun o69 => (screen_Screen_Plane_m o69.1).bind fun o72 => (plane_Plane_Len_m o69.1.f_p).bind fun o75 => (law18_ScreenSizes_l2 K o69 o75 K 0).bind (onS fun (s95 : Unit) => (screen_Screen_Run_m K o69.1 ([(126 : UInt8), (0 : UInt8)] : List UInt8)).bind fun o98 => (screen_Screen_Other_m o98.1).bind fun o102 => (screen_Screen_Run_m K o98.1 ([(243 : UInt8), (0 : UInt8), (4 : UInt8), (3 : UInt8), (0 : UInt8)] : List UInt8)).bind fun o106 => (screen_Screen_Other_m o106.1).bind fun o110 => (screen_Screen_Run_m K o106.1 ([(243 : UInt8), (0 : UInt8), (4 : UInt8), (3 : UInt8), (128 : UInt8)] : List UInt8)).bind fun o114 => (if o98.2.f_Err = 0 then (if o102 = true then (if o106.2.f_Err = 0 then (if (!o110) = true then (screen_Screen_Other_m o114.1).bind fun o121 => (if o121 = true then (screen_Screen_Plane_m o114.1).bind fun o125 => (plane_Plane_Size_m o114.1.f_p).bind fun o128 => some (decide (o128 = a1)) else some false) else some false) else some false) else some false) else some false))))) (fun (o10 : ref18_Screen × Bool) => ((if (!o10.2) = true then some true else some (decide ((a2.length : Int) > 8)))).bind fun (s134 : Bool) => (if s134 = true then some true else (law18_ScreenSizes_l3 K a2 K ()).bind (onS fun (s148 : Unit) => none)))))
theorem law18_ScreenSizes_c (K : Nat) (a0 : api_Size) (a1 : api_Size) (a2 : (List (List UInt8))) (v2_0 : Value) : Con Try.prog 3 #[.agg #[.int .i64 a0.f_Rows, .int .i64 a0.f_Cols], .agg #[.int .i64 a1.f_Rows, .int .i64 a1.f_Cols], v2_0] [.ro (kSl (kSl kB)) [v2_0] a2] (law18_ScreenSizes_m K a0 a1 a2) (fun (o : Bool) (x : Unit) => .bool o) (fun (o : Bool) (x : Unit) => []) := by
  unfold law18_ScreenSizes_m
  refine con (args := [.agg #[.int .i64 a0.f_Rows, .int .i64 a0.f_Cols], .agg #[.int .i64 a1.f_Rows, .int .i64 a1.f_Cols], v2_0]) Try.func3 rfl 129 rfl (.c (.c (.c .n))) rfl fun c hD hrn => ?_
  refine cSeq ?_
  refine cRegion ?_
  refine lCh (cBox (cs := [.int .i64 a0.f_Rows, .int .i64 a0.f_Cols]) (.t .z) rfl) rfl rfl fun b1 => ?_
  refine lCh (cBox (cs := [.int .i64 a1.f_Rows, .int .i64 a1.f_Cols]) (.t (.s (.s .z))) rfl) rfl rfl fun b2 => ?_
  refine lRd (dAssign (.c rfl)) rfl rfl ?_
  refine lKeep (.k (.k (.k (.d (.d (.k .n)))))) ?_
  refine lNil ?_
  refine xCode ?_
  refine cSeq ?_
  refine cSeq ?_
  refine cRegion ?_
  refine lCall fok_6 .n (law18_alive_c K) .n rfl rfl fun o3 x4 h5 => ?_
  refine lRd (dNot (.t .z)) rfl rfl ?_
  refine lKeep (.k (.d (.k (.k (.k (.k .n)))))) ?_
  refine lNil ?_
  refine xCode ?_
  refine cCondB (.t .z) (fun h6 => ?_) (fun h6 => ?_)
  · refine cSeq ?_
    refine cRegion ?_
    refine lRdK (dAssign (.c rfl)) (.k (.d (Keep.refl _))) rfl rfl ?_
    refine lKeep (.k (.d (.k (.k (.k .n))))) ?_
    refine lNil ?_
    refine xCode ?_
    refine cRet ?_
    refine rLeave hD ?_
    exact lvRet (rs := [.tmp 6]) rfl (.t .z .n) () rfl .nil
  · refine cSkip ?_
    refine xCode ?_
    refine cSeq ?_
    refine cRegion ?_
    refine lRd (dLoadA (us := [.int .i64 a0.f_Rows, .int .i64 a0.f_Cols]) (.s .z) agg_23 siz_23 rfl (.t (.s (.s (.s .z)))) rfl) rfl rfl ?_
    refine lRd (dLoadA (us := [.int .i64 a1.f_Rows, .int .i64 a1.f_Cols]) .z agg_23 siz_23 rfl (.t (.s (.s (.s .z)))) rfl) rfl rfl ?_
    refine lCallS fok_7 (.c (.t (.s .z)) (.c (.t .z) .n)) (law18_made_c a0 a1) .n rfl rfl (fun o7 x8 h9 => ?_) (fun o10 x11 h12 => ?_)
    · refine lRd (dMove (.t .z)) rfl rfl ?_
      refine lRd (dExtract (.t .z) rfl) rfl rfl ?_
      refine lRd (dExtract (.t (.s .z)) rfl) rfl rfl ?_
      refine lRd (dExtract (.t (.s (.s .z))) rfl) rfl rfl ?_
      refine lCh (cAlloc (cs := [.int .i64 0, .int .i64 0, .int .i64 0, .int .i64 0, .int .i64 0, .int .i64 0, .slice none 0 0, .int .i64 0, .bool false]) zer_31 rfl) rfl rfl fun b13 => ?_
      refine lRd (dAssign (.t (.s (.s (.s .z))))) rfl rfl ?_
      refine lFact (oneRo (.s (.s (.s (.s .z))))) fun h14 => ?_
      refine lChU (uStoreA (us := [.int .i64 o7.2.f_Plain.f_Rows, .int .i64 o7.2.f_Plain.f_Cols, .int .i64 o7.2.f_More.f_Rows, .int .i64 o7.2.f_More.f_Cols, .int .i64 o7.2.f_P.f_Size.f_Rows, .int .i64 o7.2.f_P.f_Size.f_Cols, x8.1.2.2.2, .int .i64 o7.2.f_P.f_Cursor, .bool o7.2.f_Other]) (cs' := [.int .i64 o7.2.f_Plain.f_Rows, .int .i64 o7.2.f_Plain.f_Cols, .int .i64 o7.2.f_More.f_Rows, .int .i64 o7.2.f_More.f_Cols, .int .i64 o7.2.f_P.f_Size.f_Rows, .int .i64 o7.2.f_P.f_Size.f_Cols, x8.1.2.2.2, .int .i64 o7.2.f_P.f_Cursor, .bool o7.2.f_Other]) .z siz_31 rfl (by intro u hu; simp only [List.mem_cons, List.not_mem_nil, or_false] at hu; rcases hu with rfl | rfl | rfl | rfl | rfl | rfl | rfl | rfl | rfl <;> first | rfl | assumption) rfl (by simp) (.t (.s .z)) (.t (.s (.s (.s .z))))) ?_
      refine lRd (dAssign (.t (.s (.s .z)))) rfl rfl ?_
      refine lKeep (.k (.k (.d (.d (.d (.d (.d (.d (.d (.d (.d (.k (.k (.k (.k .n))))))))))))))) ?_
      refine lNil ?_
      refine xCode ?_
      refine cSeq ?_
      refine cSeq ?_
      refine cJoin (S := Unit) (X := Unit) (fun (s : Unit) (x : Unit) => [(33, .bool (decide ((a2.length : Int) > 8))), (7, .pointer (some ⟨x8.1.1, 0, none⟩)), (6, .bool false), (4, .pointer (some ⟨b2, 0, none⟩)), (3, .pointer (some ⟨b1, 0, none⟩)), (2, v2_0)]) (fun (s : Unit) (x : Unit) => [.blk b13 [.int .i64 o7.2.f_Plain.f_Rows, .int .i64 o7.2.f_Plain.f_Cols, .int .i64 o7.2.f_More.f_Rows, .int .i64 o7.2.f_More.f_Cols, .int .i64 o7.2.f_P.f_Size.f_Rows, .int .i64 o7.2.f_P.f_Size.f_Cols, x8.1.2.2.2, .int .i64 o7.2.f_P.f_Cursor, .bool o7.2.f_Other] 31, .blk x8.1.1 [.int .i64 o7.1.f_sizes_0.f_Rows, .int .i64 o7.1.f_sizes_0.f_Cols, .int .i64 o7.1.f_sizes_1.f_Rows, .int .i64 o7.1.f_sizes_1.f_Cols, .int .i64 o7.1.f_which, .pointer (some ⟨x8.1.2.1, 0, none⟩)] 64, .blk x8.1.2.1 [.int .i64 o7.1.f_p.f_size.f_Rows, .int .i64 o7.1.f_p.f_size.f_Cols, x8.1.2.2.1, .int .i64 o7.1.f_p.f_cursor] 66, .own x8.1.2.2.1 44 k_api_Cell o7.1.f_p.f_cells, .ro (kSl k_api_Cell) [x8.1.2.2.2] o7.2.f_P.f_Cells, .blk b2 [.int .i64 a1.f_Rows, .int .i64 a1.f_Cols] 23, .blk b1 [.int .i64 a0.f_Rows, .int .i64 a0.f_Cols] 23, .ro (kSl (kSl kB)) [v2_0] a2]) ?_ (fun s15 x16 => ?_)
      · refine cRegion ?_
        refine lRd (dMove (.t .z)) rfl rfl ?_
        refine lRd (dNot (.t .z)) rfl rfl ?_
        refine lRd (dMove (.t .z)) rfl rfl ?_
        refine lRdG rfl .z rfl (dMove (.t (.s (.s (.s (.s (.s (.s (.s (.s .z)))))))))) rfl rfl ?_
        refine lRdG rfl (.s .z) rfl (dLen (at_ := #[24]) (slRo (.s (.s (.s (.s (.s (.s (.s .z)))))))) rfl und_24 (.t .z)) rfl rfl ?_
        refine lRdG rfl (.s (.s .z)) rfl (dGt (.t .z) (.c rfl)) rfl rfl ?_
        refine lRd (dPickF (.t (.s (.s (.s .z)))) rfl (.t .z)) rfl rfl ?_
        refine lKeep (.k (.d (.d (.d (.d (.d (.d (.d (.k (.k (.k (.k (.k .n))))))))))))) ?_
        refine lNil ?_
        exact xJoin () () (.c .z (.c (.s .z) (.c (.s (.s .z)) (.c (.s (.s (.s .z))) (.c (.s (.s (.s (.s .z)))) (.c (.s (.s (.s (.s (.s .z))))) .n)))))) (.c .z (.c .z (.c .z (.c .z (.c .z (.c .z (.c .z (.c .z .nil))))))))
      · refine xCode ?_
        refine cCond (.t .z) (fun h17 => ?_) (fun h17 => ?_)
        · refine cSeq ?_
          refine cRegion ?_
          refine lRdK (dAssign (.c rfl)) (.k (.k (.d (Keep.refl _)))) rfl rfl ?_
          refine lKeep (.k (.d (.k (.k (.k (.k .n)))))) ?_
          refine lNil ?_
          refine xCode ?_
          refine cRet ?_
          refine rLeave hD ?_
          exact lvRet (rs := [.tmp 6]) rfl (.t .z .n) () rfl .nil
        · refine cSkip ?_
          refine xCode ?_
          refine cSeq ?_
          refine cSeq ?_
          refine cRegion ?_
          refine lRd (dMove (.t (.s (.s (.s (.s (.s .z))))))) rfl rfl ?_
          refine lRd (dLen (at_ := #[24]) (slRo (.s (.s (.s (.s (.s (.s (.s .z)))))))) rfl und_24 (.t .z)) rfl rfl ?_
          refine lRd (dMove (.c rfl)) rfl rfl ?_
          refine lKeep (.k (.k (.k (.d (.k (.k (.k (.k .n)))))))) ?_
          refine lNil ?_
          refine xCode ?_
          refine cLoopR (S := Int × Int × Int × Int × Int × Int × Int × Int × (List api_Cell) × Int) (X := Nat × Value) (S' := Int × Int × Int × Int × Int × Int × Int × (List api_Cell) × Int) (X' := Nat × Value) (law18_ScreenSizes_l1 K a0 a1 a2) (fun (s : Int × Int × Int × Int × Int × Int × Int × Int × (List api_Cell) × Int) (x : Nat × Value) => [(36, .int .i64 s.1), (35, .int .i64 (a2.length : Int)), (34, v2_0), (7, .pointer (some ⟨x8.1.1, 0, none⟩)), (6, .bool false), (4, .pointer (some ⟨b2, 0, none⟩)), (3, .pointer (some ⟨b1, 0, none⟩))]) (fun (s : Int × Int × Int × Int × Int × Int × Int × Int × (List api_Cell) × Int) (x : Nat × Value) => [.blk b13 [.int .i64 o7.2.f_Plain.f_Rows, .int .i64 o7.2.f_Plain.f_Cols, .int .i64 o7.2.f_More.f_Rows, .int .i64 o7.2.f_More.f_Cols, .int .i64 o7.2.f_P.f_Size.f_Rows, .int .i64 o7.2.f_P.f_Size.f_Cols, x8.1.2.2.2, .int .i64 o7.2.f_P.f_Cursor, .bool o7.2.f_Other] 31, .blk x8.1.1 [.int .i64 s.2.1, .int .i64 s.2.2.1, .int .i64 s.2.2.2.1, .int .i64 s.2.2.2.2.1, .int .i64 s.2.2.2.2.2.1, .pointer (some ⟨x.1, 0, none⟩)] 64, .blk x.1 [.int .i64 s.2.2.2.2.2.2.1, .int .i64 s.2.2.2.2.2.2.2.1, x.2, .int .i64 s.2.2.2.2.2.2.2.2.2] 66, .own x.2 44 k_api_Cell s.2.2.2.2.2.2.2.2.1, .ro (kSl k_api_Cell) [x8.1.2.2.2] o7.2.f_P.f_Cells, .blk b2 [.int .i64 a1.f_Rows, .int .i64 a1.f_Cols] 23, .blk b1 [.int .i64 a0.f_Rows, .int .i64 a0.f_Cols] 23, .ro (kSl (kSl kB)) [v2_0] a2]) (fun (s : Int × Int × Int × Int × Int × Int × Int × (List api_Cell) × Int) (x : Nat × Value) => [(7, .pointer (some ⟨x8.1.1, 0, none⟩)), (6, .bool false), (4, .pointer (some ⟨b2, 0, none⟩))]) (fun (s : Int × Int × Int × Int × Int × Int × Int × (List api_Cell) × Int) (x : Nat × Value) => [.blk b13 [.int .i64 o7.2.f_Plain.f_Rows, .int .i64 o7.2.f_Plain.f_Cols, .int .i64 o7.2.f_More.f_Rows, .int .i64 o7.2.f_More.f_Cols, .int .i64 o7.2.f_P.f_Size.f_Rows, .int .i64 o7.2.f_P.f_Size.f_Cols, x8.1.2.2.2, .int .i64 o7.2.f_P.f_Cursor, .bool o7.2.f_Other] 31, .blk x8.1.1 [.int .i64 s.1, .int .i64 s.2.1, .int .i64 s.2.2.1, .int .i64 s.2.2.2.1, .int .i64 s.2.2.2.2.1, .pointer (some ⟨x.1, 0, none⟩)] 64, .blk x.1 [.int .i64 s.2.2.2.2.2.1, .int .i64 s.2.2.2.2.2.2.1, x.2, .int .i64 s.2.2.2.2.2.2.2.2] 66, .own x.2 44 k_api_Cell s.2.2.2.2.2.2.2.1, .ro (kSl k_api_Cell) [x8.1.2.2.2] o7.2.f_P.f_Cells, .blk b2 [.int .i64 a1.f_Rows, .int .i64 a1.f_Cols] 23, .blk b1 [.int .i64 a0.f_Rows, .int .i64 a0.f_Cols] 23, .ro (kSl (kSl kB)) [v2_0] a2]) K (0, o7.1.f_sizes_0.f_Rows, o7.1.f_sizes_0.f_Cols, o7.1.f_sizes_1.f_Rows, o7.1.f_sizes_1.f_Cols, o7.1.f_which, o7.1.f_p.f_size.f_Rows, o7.1.f_p.f_size.f_Cols, o7.1.f_p.f_cells, o7.1.f_p.f_cursor) (x8.1.2.1, x8.1.2.2.1) (.c .z (.c (.s .z) (.c (.s (.s .z)) (.c (.s (.s (.s .z))) (.c (.s (.s (.s (.s .z)))) (.c (.s (.s (.s (.s (.s .z))))) (.c (.s (.s (.s (.s (.s (.s .z)))))) .n))))))) (.c .z (.c .z (.c .z (.c .z (.c .z (.c .z (.c .z (.c .z .nil)))))))) (fun _ => rfl) (fun n20 I21 h22 s18 x19 => ?_) (fun s66 x67 => ?_)
          · rw [law18_ScreenSizes_l1]
            refine cSeq ?_
            refine cRegion ?_
            refine lRd (dLt (.t .z) (.t (.s .z))) rfl rfl ?_
            refine lNil ?_
            refine xCode ?_
            refine cSeq ?_
            refine cCond (.t .z) (fun h23 => ?_) (fun h23 => ?_)
            · refine cSkip ?_
              refine xCode ?_
              refine cSeq ?_
              refine cBlock ?_
              refine cSeq ?_
              refine cRegion ?_
              refine lIx fun y24 h25 h26 => ?_
              refine lRd (dIxAddr (slRo (.s (.s (.s (.s (.s (.s (.s .z)))))))) und_24 siz_34 (.t (.s (.s (.s .z)))) (.t (.s .z)) h25 h26) rfl rfl ?_
              refine lCh (cLoadRoS (k := kB) (.s (.s (.s (.s (.s (.s (.s .z))))))) agg_34 (.t .z) h26) rfl rfl fun v27 => ?_
              refine lRd (dAssign (.t .z)) rfl rfl ?_
              refine lNil ?_
              refine xCode ?_
              refine cSeq ?_
              refine cSeq ?_
              refine cRegion ?_
              refine lRd (dMove (.t .z)) rfl rfl ?_
              refine lRd (dLen (at_ := #[34]) (slRo .z) rfl und_34 (.t .z)) rfl rfl ?_
              refine lRd (dGt (.t .z) (.c rfl)) rfl rfl ?_
              refine lNil ?_
              refine xCode ?_
              refine cCond (.t .z) (fun h28 => ?_) (fun h28 => ?_)
              · refine cSeq ?_
                refine cRegion ?_
                refine lRdK (dAssign (.c rfl)) (.k (.k (.k (.k (.k (.k (.k (.k (.k (.k (.k (.d (Keep.refl _))))))))))))) rfl rfl ?_
                refine lNil ?_
                refine xCode ?_
                refine cRet ?_
                refine rInner ?_
                refine rLeave hD ?_
                exact lvRet (rs := [.tmp 6]) rfl (.t .z .n) () rfl .nil
              · refine cSkip ?_
                refine xCode ?_
                refine cSeq ?_
                refine cRegion ?_
                refine lRd (dMove (.t (.s (.s (.s (.s (.s (.s (.s (.s (.s (.s .z)))))))))))) rfl rfl ?_
                refine lRd (dMove (.t (.s (.s (.s (.s .z)))))) rfl rfl ?_
                refine lCallN fok_8 (.c (.t (.s .z)) (.c (.t .z) .n)) (screen_Screen_Run_c K (⟨(⟨s18.2.1, s18.2.2.1⟩ : api_Size), (⟨s18.2.2.2.1, s18.2.2.2.2.1⟩ : api_Size), s18.2.2.2.2.2.1, (⟨(⟨s18.2.2.2.2.2.2.1, s18.2.2.2.2.2.2.2.1⟩ : api_Size), s18.2.2.2.2.2.2.2.2.1, s18.2.2.2.2.2.2.2.2.2⟩ : plane_Plane)⟩ : screen_Screen) y24 x8.1.1 x19.1 x19.2 v27) (.c (.s (.s .z)) (.c (.s (.s .z)) (.c (.s (.s .z)) (.r .z .n)))) rfl fun o29 x30 h31 => ?_
                refine lNil ?_
                refine xCode ?_
                refine cSeq ?_
                refine cJoin (S := Bool × Bool × Bool × Bool × Bool × Int × Int) (X := Unit) (fun (s : Bool × Bool × Bool × Bool × Bool × Int × Int) (x : Unit) => [(66, .bool s.1), (56, .bool s.2.1), (55, .bool s.2.2.1), (51, .bool s.2.2.2.1), (50, .bool s.2.2.2.2.1), (49, .agg #[.int .i64 a0.f_Rows, .int .i64 a0.f_Cols]), (48, .agg #[.int .i64 s.2.2.2.2.2.1, .int .i64 s.2.2.2.2.2.2]), (47, .pointer (some ⟨x30.1, 0, none⟩)), (46, .pointer (some ⟨x8.1.1, 0, none⟩)), (44, v27), (43, .pointer (some ⟨x8.1.1, 0, none⟩)), (42, .bool (decide ((y24.length : Int) > 200))), (41, .int .i64 (y24.length : Int)), (40, v27), (11, v27), (39, v27), (37, .bool (decide (s18.1 < (a2.length : Int)))), (36, .int .i64 s18.1), (35, .int .i64 (a2.length : Int)), (34, v2_0), (7, .pointer (some ⟨x8.1.1, 0, none⟩)), (6, .bool false), (4, .pointer (some ⟨b2, 0, none⟩)), (3, .pointer (some ⟨b1, 0, none⟩))]) (fun (s : Bool × Bool × Bool × Bool × Bool × Int × Int) (x : Unit) => [.blk x8.1.1 [.int .i64 o29.1.f_sizes_0.f_Rows, .int .i64 o29.1.f_sizes_0.f_Cols, .int .i64 o29.1.f_sizes_1.f_Rows, .int .i64 o29.1.f_sizes_1.f_Cols, .int .i64 o29.1.f_which, .pointer (some ⟨x30.1, 0, none⟩)] 64, .blk x30.1 [.int .i64 o29.1.f_p.f_size.f_Rows, .int .i64 o29.1.f_p.f_size.f_Cols, x30.2, .int .i64 o29.1.f_p.f_cursor] 66, .own x30.2 44 k_api_Cell o29.1.f_p.f_cells, .ro (kSl kB) [v27] y24, .blk b13 [.int .i64 o7.2.f_Plain.f_Rows, .int .i64 o7.2.f_Plain.f_Cols, .int .i64 o7.2.f_More.f_Rows, .int .i64 o7.2.f_More.f_Cols, .int .i64 o7.2.f_P.f_Size.f_Rows, .int .i64 o7.2.f_P.f_Size.f_Cols, x8.1.2.2.2, .int .i64 o7.2.f_P.f_Cursor, .bool o7.2.f_Other] 31, .ro (kSl k_api_Cell) [x8.1.2.2.2] o7.2.f_P.f_Cells, .blk b2 [.int .i64 a1.f_Rows, .int .i64 a1.f_Cols] 23, .blk b1 [.int .i64 a0.f_Rows, .int .i64 a0.f_Cols] 23, .ro (kSl (kSl kB)) [v2_0] a2]) ?_ (fun s63 x64 => ?_)
                · refine cRegionM [] [(0, .early), (1, .early), (2, .early), (3, .early), (4, .early), (5, .early), (6, .early), (7, .early), (8, .early), (9, .early), (10, .early), (11, .early), (12, .early), (13, .early), (14, .early), (15, .early), (16, .early), (17, .early), (18, .early), (19, .early), (20, .early)] mixed (by kernel_rfl) (.c .z (.c .z (.c .z (.c .z (.c .z (.c .z (.c .z (.c .z (.c .z .nil))))))))) (.c (.c (.c (.c (.c (.c (.c (.c (.c .n))))))))) ?_
                  refine mRd rfl rfl (fun _ _ _ => dMove (.t (.s (.s (.s (.s (.s (.s (.s (.s (.s (.s (.s (.s .z)))))))))))))) rfl rfl ?_
                  refine mCallQ rfl rfl fok_9 (.c (.t .z) .n) (screen_Screen_Plane_c o29.1 x8.1.1 x30.1 x30.2) (.c .z (.c .z (.c .z .n))) (fun _ _ => rfl) (fun _ _ => (.c .z (.c .z (.c .z (.c .z (.c .z (.c .z (.c .z (.c .z (.c .z .nil)))))))))) rfl rfl fun o32 h34 => ?_
                  refine mCallQ rfl rfl fok_10 (.c (.t .z) .n) (plane_Plane_Size_c o29.1.f_p x30.1 x30.2) (.c (.s .z) (.c (.s .z) .n)) (fun _ _ => rfl) (fun _ _ => (.c (.s (.s .z)) (.c .z (.c .z (.c .z (.c .z (.c .z (.c .z (.c .z (.c .z .nil)))))))))) rfl rfl fun o35 h37 => ?_
                  refine mRd rfl rfl (fun _ _ _ => dLoadA (us := [.int .i64 a0.f_Rows, .int .i64 a0.f_Cols]) (.s (.s (.s (.s (.s (.s (.s .z))))))) agg_23 siz_23 rfl (.t (.s (.s (.s (.s (.s (.s (.s (.s (.s (.s (.s (.s (.s (.s (.s (.s (.s (.s .z))))))))))))))))))) rfl) rfl rfl ?_
                  refine mRd rfl rfl (fun _ _ _ => dNeA eqg_23 (eqa_23 o35 a0) (.t (.s .z)) (.t .z)) rfl rfl ?_
                  refine mRd rfl rfl (fun _ _ _ => dMove (.t .z)) rfl rfl ?_
                  refine mCase (fun h38 => ?_) (fun h38 => ?_)
                  · refine mRdG rfl rfl rfl .z h38 (fun _ _ _ => dMove (.t (.s (.s (.s (.s (.s (.s (.s (.s (.s (.s (.s (.s (.s (.s (.s (.s (.s (.s .z)))))))))))))))))))) rfl rfl ?_
                    refine mCallQG rfl rfl rfl (.s .z) h38 fok_11 (.c (.t .z) .n) (screen_Screen_Other_c o29.1 x8.1.1 x30.1 x30.2) (.c .z (.c .z (.c .z .n))) (fun _ _ => rfl) (fun _ _ => (.c .z (.c .z (.c .z (.c .z (.c .z (.c .z (.c .z (.c .z (.c .z .nil)))))))))) rfl rfl fun o39 h41 => ?_
                    refine mRdG rfl rfl rfl (.s (.s .z)) h38 (fun _ _ _ => dNot (.t .z)) rfl rfl ?_
                    refine mRd rfl rfl (fun _ _ _ => dPickT (.t (.s (.s (.s .z)))) h38 (.t .z)) rfl rfl ?_
                    refine mRd rfl rfl (fun _ _ _ => dMove (.t .z)) rfl rfl ?_
                    refine mCase (fun h42 => ?_) (fun h42 => ?_)
                    · refine mPass rfl rfl rfl .z (nbF h42) rfl ?_
                      refine mPass rfl rfl rfl .z (nbF h42) rfl ?_
                      refine mPass rfl rfl rfl .z (nbF h42) rfl ?_
                      refine mPass rfl rfl rfl .z (nbF h42) rfl ?_
                      refine mPass rfl rfl rfl .z (nbF h42) rfl ?_
                      refine mPassU rfl rfl rfl .z (nbF h42) rfl rfl ?_
                      refine mPass rfl rfl rfl .z nbU rfl ?_
                      refine mPass rfl rfl rfl .z nbU rfl ?_
                      refine mPass rfl rfl rfl (.s .z) (nbF h42) rfl ?_
                      refine mRd rfl rfl (fun _ _ _ => dPickT (.t (.s .z)) h42 (.c rfl)) rfl rfl ?_
                      refine mNil ?_
                      exact xJoin (true, (!o39), (!o39), (!decide (o35 = a0)), (!decide (o35 = a0)), o35.f_Rows, o35.f_Cols) () (.c .z (.c (.s (.s .z)) (.c (.s (.s (.s .z))) (.c (.s (.s (.s (.s (.s (.s (.s .z))))))) (.c (.s (.s (.s (.s (.s (.s (.s (.s .z)))))))) (.c (.s (.s (.s (.s (.s (.s (.s (.s (.s .z))))))))) (.c (.s (.s (.s (.s (.s (.s (.s (.s (.s (.s .z)))))))))) (.c (.s (.s (.s (.s (.s (.s (.s (.s (.s (.s (.s .z))))))))))) (.c (.s (.s (.s (.s (.s (.s (.s (.s (.s (.s (.s (.s .z)))))))))))) (.c (.s (.s (.s (.s (.s (.s (.s (.s (.s (.s (.s (.s (.s .z))))))))))))) (.c (.s (.s (.s (.s (.s (.s (.s (.s (.s (.s (.s (.s (.s (.s .z)))))))))))))) (.c (.s (.s (.s (.s (.s (.s (.s (.s (.s (.s (.s (.s (.s (.s (.s .z))))))))))))))) (.c (.s (.s (.s (.s (.s (.s (.s (.s (.s (.s (.s (.s (.s (.s (.s (.s .z)))))))))))))))) (.c (.s (.s (.s (.s (.s (.s (.s (.s (.s (.s (.s (.s (.s (.s (.s (.s (.s .z))))))))))))))))) (.c (.s (.s (.s (.s (.s (.s (.s (.s (.s (.s (.s (.s (.s (.s (.s (.s (.s (.s .z)))))))))))))))))) (.c (.s (.s (.s (.s (.s (.s (.s (.s (.s (.s (.s (.s (.s (.s (.s (.s (.s (.s (.s .z))))))))))))))))))) (.c (.s (.s (.s (.s (.s (.s (.s (.s (.s (.s (.s (.s (.s (.s (.s (.s (.s (.s (.s (.s (.s .z))))))))))))))))))))) (.c (.s (.s (.s (.s (.s (.s (.s (.s (.s (.s (.s (.s (.s (.s (.s (.s (.s (.s (.s (.s (.s (.s .z)))))))))))))))))))))) (.c (.s (.s (.s (.s (.s (.s (.s (.s (.s (.s (.s (.s (.s (.s (.s (.s (.s (.s (.s (.s (.s (.s (.s .z))))))))))))))))))))))) (.c (.s (.s (.s (.s (.s (.s (.s (.s (.s (.s (.s (.s (.s (.s (.s (.s (.s (.s (.s (.s (.s (.s (.s (.s .z)))))))))))))))))))))))) (.c (.s (.s (.s (.s (.s (.s (.s (.s (.s (.s (.s (.s (.s (.s (.s (.s (.s (.s (.s (.s (.s (.s (.s (.s (.s .z))))))))))))))))))))))))) (.c (.s (.s (.s (.s (.s (.s (.s (.s (.s (.s (.s (.s (.s (.s (.s (.s (.s (.s (.s (.s (.s (.s (.s (.s (.s (.s .z)))))))))))))))))))))))))) (.c (.s (.s (.s (.s (.s (.s (.s (.s (.s (.s (.s (.s (.s (.s (.s (.s (.s (.s (.s (.s (.s (.s (.s (.s (.s (.s (.s .z))))))))))))))))))))))))))) (.c (.s (.s (.s (.s (.s (.s (.s (.s (.s (.s (.s (.s (.s (.s (.s (.s (.s (.s (.s (.s (.s (.s (.s (.s (.s (.s (.s (.s .z)))))))))))))))))))))))))))) .n)))))))))))))))))))))))) (.c .z (.c .z (.c .z (.c .z (.c .z (.c .z (.c .z (.c .z (.c .z .nil)))))))))
                    · refine mRdG rfl rfl rfl .z (Bool.eq_false_iff.mpr h42) (fun _ _ _ => dMove (.t (.s (.s (.s (.s (.s (.s (.s (.s (.s (.s (.s (.s (.s (.s (.s (.s (.s (.s (.s (.s (.s (.s (.s .z))))))))))))))))))))))))) rfl rfl ?_
                      refine mCallQG rfl rfl rfl (.s .z) (Bool.eq_false_iff.mpr h42) fok_9 (.c (.t .z) .n) (screen_Screen_Plane_c o29.1 x8.1.1 x30.1 x30.2) (.c .z (.c .z (.c .z .n))) (fun _ _ => rfl) (fun _ _ => (.c .z (.c .z (.c .z (.c .z (.c .z (.c .z (.c .z (.c .z (.c .z .nil)))))))))) rfl rfl fun o43 h45 => ?_
                      refine mCallQG rfl rfl rfl (.s (.s .z)) (Bool.eq_false_iff.mpr h42) fok_10 (.c (.t .z) .n) (plane_Plane_Size_c o29.1.f_p x30.1 x30.2) (.c (.s .z) (.c (.s .z) .n)) (fun _ _ => rfl) (fun _ _ => (.c (.s (.s .z)) (.c .z (.c .z (.c .z (.c .z (.c .z (.c .z (.c .z (.c .z .nil)))))))))) rfl rfl fun o46 h48 => ?_
                      refine mRdG rfl rfl rfl (.s (.s (.s .z))) (Bool.eq_false_iff.mpr h42) (fun _ _ _ => dLoadA (us := [.int .i64 a1.f_Rows, .int .i64 a1.f_Cols]) (.s (.s (.s (.s (.s (.s .z)))))) agg_23 siz_23 rfl (.t (.s (.s (.s (.s (.s (.s (.s (.s (.s (.s (.s (.s (.s (.s (.s (.s (.s (.s (.s (.s (.s (.s (.s (.s (.s (.s (.s (.s .z))))))))))))))))))))))))))))) rfl) rfl rfl ?_
                      refine mRdG rfl rfl rfl (.s (.s (.s (.s .z)))) (Bool.eq_false_iff.mpr h42) (fun _ _ _ => dNeA eqg_23 (eqa_23 o46 a1) (.t (.s .z)) (.t .z)) rfl rfl ?_
                      refine mRdG rfl rfl rfl (.s (.s (.s (.s (.s .z))))) (Bool.eq_false_iff.mpr h42) (fun _ _ _ => dMove (.t .z)) rfl rfl ?_
                      refine mCase (fun h49 => ?_) (fun h49 => ?_)
                      · refine mRdG rfl rfl rfl .z h49 (fun _ _ _ => dMove (.t (.s (.s (.s (.s (.s (.s (.s (.s (.s (.s (.s (.s (.s (.s (.s (.s (.s (.s (.s (.s (.s (.s (.s (.s (.s (.s (.s (.s (.s .z))))))))))))))))))))))))))))))) rfl rfl ?_
                        refine mCallQG rfl rfl rfl (.s .z) h49 fok_11 (.c (.t .z) .n) (screen_Screen_Other_c o29.1 x8.1.1 x30.1 x30.2) (.c .z (.c .z (.c .z .n))) (fun _ _ => rfl) (fun _ _ => (.c .z (.c .z (.c .z (.c .z (.c .z (.c .z (.c .z (.c .z (.c .z .nil)))))))))) rfl rfl fun o50 h52 => ?_
                        refine mRdG rfl rfl rfl (.s (.s (.s (.s (.s (.s (.s (.s .z)))))))) (Bool.eq_false_iff.mpr h42) (fun _ _ _ => dPickT (.t (.s (.s .z))) h49 (.t .z)) rfl rfl ?_
                        refine mRd rfl rfl (fun _ _ _ => dPickF (.t (.s (.s (.s (.s (.s (.s (.s (.s (.s .z)))))))))) (Bool.eq_false_iff.mpr h42) (.t .z)) rfl rfl ?_
                        refine mNil ?_
                        exact xJoin (o50, (!o39), (!o39), (!decide (o35 = a0)), (!decide (o35 = a0)), o35.f_Rows, o35.f_Cols) () (.c .z (.c (.s (.s (.s (.s (.s (.s (.s (.s (.s (.s .z)))))))))) (.c (.s (.s (.s (.s (.s (.s (.s (.s (.s (.s (.s .z))))))))))) (.c (.s (.s (.s (.s (.s (.s (.s (.s (.s (.s (.s (.s (.s (.s (.s .z))))))))))))))) (.c (.s (.s (.s (.s (.s (.s (.s (.s (.s (.s (.s (.s (.s (.s (.s (.s .z)))))))))))))))) (.c (.s (.s (.s (.s (.s (.s (.s (.s (.s (.s (.s (.s (.s (.s (.s (.s (.s .z))))))))))))))))) (.c (.s (.s (.s (.s (.s (.s (.s (.s (.s (.s (.s (.s (.s (.s (.s (.s (.s (.s .z)))))))))))))))))) (.c (.s (.s (.s (.s (.s (.s (.s (.s (.s (.s (.s (.s (.s (.s (.s (.s (.s (.s (.s .z))))))))))))))))))) (.c (.s (.s (.s (.s (.s (.s (.s (.s (.s (.s (.s (.s (.s (.s (.s (.s (.s (.s (.s (.s .z)))))))))))))))))))) (.c (.s (.s (.s (.s (.s (.s (.s (.s (.s (.s (.s (.s (.s (.s (.s (.s (.s (.s (.s (.s (.s .z))))))))))))))))))))) (.c (.s (.s (.s (.s (.s (.s (.s (.s (.s (.s (.s (.s (.s (.s (.s (.s (.s (.s (.s (.s (.s (.s .z)))))))))))))))))))))) (.c (.s (.s (.s (.s (.s (.s (.s (.s (.s (.s (.s (.s (.s (.s (.s (.s (.s (.s (.s (.s (.s (.s (.s .z))))))))))))))))))))))) (.c (.s (.s (.s (.s (.s (.s (.s (.s (.s (.s (.s (.s (.s (.s (.s (.s (.s (.s (.s (.s (.s (.s (.s (.s .z)))))))))))))))))))))))) (.c (.s (.s (.s (.s (.s (.s (.s (.s (.s (.s (.s (.s (.s (.s (.s (.s (.s (.s (.s (.s (.s (.s (.s (.s (.s .z))))))))))))))))))))))))) (.c (.s (.s (.s (.s (.s (.s (.s (.s (.s (.s (.s (.s (.s (.s (.s (.s (.s (.s (.s (.s (.s (.s (.s (.s (.s (.s .z)))))))))))))))))))))))))) (.c (.s (.s (.s (.s (.s (.s (.s (.s (.s (.s (.s (.s (.s (.s (.s (.s (.s (.s (.s (.s (.s (.s (.s (.s (.s (.s (.s .z))))))))))))))))))))))))))) (.c (.s (.s (.s (.s (.s (.s (.s (.s (.s (.s (.s (.s (.s (.s (.s (.s (.s (.s (.s (.s (.s (.s (.s (.s (.s (.s (.s (.s (.s .z))))))))))))))))))))))))))))) (.c (.s (.s (.s (.s (.s (.s (.s (.s (.s (.s (.s (.s (.s (.s (.s (.s (.s (.s (.s (.s (.s (.s (.s (.s (.s (.s (.s (.s (.s (.s .z)))))))))))))))))))))))))))))) (.c (.s (.s (.s (.s (.s (.s (.s (.s (.s (.s (.s (.s (.s (.s (.s (.s (.s (.s (.s (.s (.s (.s (.s (.s (.s (.s (.s (.s (.s (.s (.s .z))))))))))))))))))))))))))))))) (.c (.s (.s (.s (.s (.s (.s (.s (.s (.s (.s (.s (.s (.s (.s (.s (.s (.s (.s (.s (.s (.s (.s (.s (.s (.s (.s (.s (.s (.s (.s (.s (.s .z)))))))))))))))))))))))))))))))) (.c (.s (.s (.s (.s (.s (.s (.s (.s (.s (.s (.s (.s (.s (.s (.s (.s (.s (.s (.s (.s (.s (.s (.s (.s (.s (.s (.s (.s (.s (.s (.s (.s (.s .z))))))))))))))))))))))))))))))))) (.c (.s (.s (.s (.s (.s (.s (.s (.s (.s (.s (.s (.s (.s (.s (.s (.s (.s (.s (.s (.s (.s (.s (.s (.s (.s (.s (.s (.s (.s (.s (.s (.s (.s (.s .z)))))))))))))))))))))))))))))))))) (.c (.s (.s (.s (.s (.s (.s (.s (.s (.s (.s (.s (.s (.s (.s (.s (.s (.s (.s (.s (.s (.s (.s (.s (.s (.s (.s (.s (.s (.s (.s (.s (.s (.s (.s (.s .z))))))))))))))))))))))))))))))))))) (.c (.s (.s (.s (.s (.s (.s (.s (.s (.s (.s (.s (.s (.s (.s (.s (.s (.s (.s (.s (.s (.s (.s (.s (.s (.s (.s (.s (.s (.s (.s (.s (.s (.s (.s (.s (.s .z)))))))))))))))))))))))))))))))))))) .n)))))))))))))))))))))))) (.c .z (.c .z (.c .z (.c .z (.c .z (.c .z (.c .z (.c .z (.c .z .nil)))))))))
                      · refine mPass rfl rfl rfl .z (nbT (Bool.eq_false_iff.mpr h49)) rfl ?_
                        refine mPass rfl rfl rfl .z (nbT (Bool.eq_false_iff.mpr h49)) rfl ?_
                        refine mRdG rfl rfl rfl (.s (.s (.s (.s (.s (.s .z)))))) (Bool.eq_false_iff.mpr h42) (fun _ _ _ => dPickF (.t .z) (Bool.eq_false_iff.mpr h49) (.c rfl)) rfl rfl ?_
                        refine mRd rfl rfl (fun _ _ _ => dPickF (.t (.s (.s (.s (.s (.s (.s (.s .z)))))))) (Bool.eq_false_iff.mpr h42) (.t .z)) rfl rfl ?_
                        refine mNil ?_
                        exact xJoin (false, (!o39), (!o39), (!decide (o35 = a0)), (!decide (o35 = a0)), o35.f_Rows, o35.f_Cols) () (.c .z (.c (.s (.s (.s (.s (.s (.s (.s (.s .z)))))))) (.c (.s (.s (.s (.s (.s (.s (.s (.s (.s .z))))))))) (.c (.s (.s (.s (.s (.s (.s (.s (.s (.s (.s (.s (.s (.s .z))))))))))))) (.c (.s (.s (.s (.s (.s (.s (.s (.s (.s (.s (.s (.s (.s (.s .z)))))))))))))) (.c (.s (.s (.s (.s (.s (.s (.s (.s (.s (.s (.s (.s (.s (.s (.s .z))))))))))))))) (.c (.s (.s (.s (.s (.s (.s (.s (.s (.s (.s (.s (.s (.s (.s (.s (.s .z)))))))))))))))) (.c (.s (.s (.s (.s (.s (.s (.s (.s (.s (.s (.s (.s (.s (.s (.s (.s (.s .z))))))))))))))))) (.c (.s (.s (.s (.s (.s (.s (.s (.s (.s (.s (.s (.s (.s (.s (.s (.s (.s (.s .z)))))))))))))))))) (.c (.s (.s (.s (.s (.s (.s (.s (.s (.s (.s (.s (.s (.s (.s (.s (.s (.s (.s (.s .z))))))))))))))))))) (.c (.s (.s (.s (.s (.s (.s (.s (.s (.s (.s (.s (.s (.s (.s (.s (.s (.s (.s (.s (.s .z)))))))))))))))))))) (.c (.s (.s (.s (.s (.s (.s (.s (.s (.s (.s (.s (.s (.s (.s (.s (.s (.s (.s (.s (.s (.s .z))))))))))))))))))))) (.c (.s (.s (.s (.s (.s (.s (.s (.s (.s (.s (.s (.s (.s (.s (.s (.s (.s (.s (.s (.s (.s (.s .z)))))))))))))))))))))) (.c (.s (.s (.s (.s (.s (.s (.s (.s (.s (.s (.s (.s (.s (.s (.s (.s (.s (.s (.s (.s (.s (.s (.s .z))))))))))))))))))))))) (.c (.s (.s (.s (.s (.s (.s (.s (.s (.s (.s (.s (.s (.s (.s (.s (.s (.s (.s (.s (.s (.s (.s (.s (.s .z)))))))))))))))))))))))) (.c (.s (.s (.s (.s (.s (.s (.s (.s (.s (.s (.s (.s (.s (.s (.s (.s (.s (.s (.s (.s (.s (.s (.s (.s (.s .z))))))))))))))))))))))))) (.c (.s (.s (.s (.s (.s (.s (.s (.s (.s (.s (.s (.s (.s (.s (.s (.s (.s (.s (.s (.s (.s (.s (.s (.s (.s (.s (.s .z))))))))))))))))))))))))))) (.c (.s (.s (.s (.s (.s (.s (.s (.s (.s (.s (.s (.s (.s (.s (.s (.s (.s (.s (.s (.s (.s (.s (.s (.s (.s (.s (.s (.s .z)))))))))))))))))))))))))))) (.c (.s (.s (.s (.s (.s (.s (.s (.s (.s (.s (.s (.s (.s (.s (.s (.s (.s (.s (.s (.s (.s (.s (.s (.s (.s (.s (.s (.s (.s .z))))))))))))))))))))))))))))) (.c (.s (.s (.s (.s (.s (.s (.s (.s (.s (.s (.s (.s (.s (.s (.s (.s (.s (.s (.s (.s (.s (.s (.s (.s (.s (.s (.s (.s (.s (.s .z)))))))))))))))))))))))))))))) (.c (.s (.s (.s (.s (.s (.s (.s (.s (.s (.s (.s (.s (.s (.s (.s (.s (.s (.s (.s (.s (.s (.s (.s (.s (.s (.s (.s (.s (.s (.s (.s .z))))))))))))))))))))))))))))))) (.c (.s (.s (.s (.s (.s (.s (.s (.s (.s (.s (.s (.s (.s (.s (.s (.s (.s (.s (.s (.s (.s (.s (.s (.s (.s (.s (.s (.s (.s (.s (.s (.s .z)))))))))))))))))))))))))))))))) (.c (.s (.s (.s (.s (.s (.s (.s (.s (.s (.s (.s (.s (.s (.s (.s (.s (.s (.s (.s (.s (.s (.s (.s (.s (.s (.s (.s (.s (.s (.s (.s (.s (.s .z))))))))))))))))))))))))))))))))) (.c (.s (.s (.s (.s (.s (.s (.s (.s (.s (.s (.s (.s (.s (.s (.s (.s (.s (.s (.s (.s (.s (.s (.s (.s (.s (.s (.s (.s (.s (.s (.s (.s (.s (.s .z)))))))))))))))))))))))))))))))))) .n)))))))))))))))))))))))) (.c .z (.c .z (.c .z (.c .z (.c .z (.c .z (.c .z (.c .z (.c .z .nil)))))))))
                  · refine mPass rfl rfl rfl .z (nbT (Bool.eq_false_iff.mpr h38)) rfl ?_
                    refine mPass rfl rfl rfl .z (nbT (Bool.eq_false_iff.mpr h38)) rfl ?_
                    refine mPass rfl rfl rfl .z (nbT (Bool.eq_false_iff.mpr h38)) rfl ?_
                    refine mRd rfl rfl (fun _ _ _ => dPickF (.t .z) (Bool.eq_false_iff.mpr h38) (.c rfl)) rfl rfl ?_
                    refine mRd rfl rfl (fun _ _ _ => dMove (.t .z)) rfl rfl ?_
                    refine mRdG rfl rfl rfl .z rfl (fun _ _ _ => dMove (.t (.s (.s (.s (.s (.s (.s (.s (.s (.s (.s (.s (.s (.s (.s (.s (.s (.s (.s (.s (.s .z)))))))))))))))))))))) rfl rfl ?_
                    refine mCallQG rfl rfl rfl (.s .z) rfl fok_9 (.c (.t .z) .n) (screen_Screen_Plane_c o29.1 x8.1.1 x30.1 x30.2) (.c .z (.c .z (.c .z .n))) (fun _ _ => rfl) (fun _ _ => (.c .z (.c .z (.c .z (.c .z (.c .z (.c .z (.c .z (.c .z (.c .z .nil)))))))))) rfl rfl fun o53 h55 => ?_
                    refine mCallQG rfl rfl rfl (.s (.s .z)) rfl fok_10 (.c (.t .z) .n) (plane_Plane_Size_c o29.1.f_p x30.1 x30.2) (.c (.s .z) (.c (.s .z) .n)) (fun _ _ => rfl) (fun _ _ => (.c (.s (.s .z)) (.c .z (.c .z (.c .z (.c .z (.c .z (.c .z (.c .z (.c .z .nil)))))))))) rfl rfl fun o56 h58 => ?_
                    refine mRdG rfl rfl rfl (.s (.s (.s .z))) rfl (fun _ _ _ => dLoadA (us := [.int .i64 a1.f_Rows, .int .i64 a1.f_Cols]) (.s (.s (.s (.s (.s (.s .z)))))) agg_23 siz_23 rfl (.t (.s (.s (.s (.s (.s (.s (.s (.s (.s (.s (.s (.s (.s (.s (.s (.s (.s (.s (.s (.s (.s (.s (.s (.s (.s .z)))))))))))))))))))))))))) rfl) rfl rfl ?_
                    refine mRdG rfl rfl rfl (.s (.s (.s (.s .z)))) rfl (fun _ _ _ => dNeA eqg_23 (eqa_23 o56 a1) (.t (.s .z)) (.t .z)) rfl rfl ?_
                    refine mRdG rfl rfl rfl (.s (.s (.s (.s (.s .z))))) rfl (fun _ _ _ => dMove (.t .z)) rfl rfl ?_
                    refine mCase (fun h59 => ?_) (fun h59 => ?_)
                    · refine mRdG rfl rfl rfl .z h59 (fun _ _ _ => dMove (.t (.s (.s (.s (.s (.s (.s (.s (.s (.s (.s (.s (.s (.s (.s (.s (.s (.s (.s (.s (.s (.s (.s (.s (.s (.s (.s .z)))))))))))))))))))))))))))) rfl rfl ?_
                      refine mCallQG rfl rfl rfl (.s .z) h59 fok_11 (.c (.t .z) .n) (screen_Screen_Other_c o29.1 x8.1.1 x30.1 x30.2) (.c .z (.c .z (.c .z .n))) (fun _ _ => rfl) (fun _ _ => (.c .z (.c .z (.c .z (.c .z (.c .z (.c .z (.c .z (.c .z (.c .z .nil)))))))))) rfl rfl fun o60 h62 => ?_
                      refine mRdG rfl rfl rfl (.s (.s (.s (.s (.s (.s (.s (.s .z)))))))) rfl (fun _ _ _ => dPickT (.t (.s (.s .z))) h59 (.t .z)) rfl rfl ?_
                      refine mRd rfl rfl (fun _ _ _ => dPickF (.t (.s (.s (.s (.s (.s (.s (.s (.s (.s .z)))))))))) rfl (.t .z)) rfl rfl ?_
                      refine mNil ?_
                      exact xJoin (o60, false, false, (!decide (o35 = a0)), (!decide (o35 = a0)), o35.f_Rows, o35.f_Cols) () (.c .z (.c (.s (.s (.s (.s (.s (.s (.s (.s (.s (.s .z)))))))))) (.c (.s (.s (.s (.s (.s (.s (.s (.s (.s (.s (.s .z))))))))))) (.c (.s (.s (.s (.s (.s (.s (.s (.s (.s (.s (.s (.s .z)))))))))))) (.c (.s (.s (.s (.s (.s (.s (.s (.s (.s (.s (.s (.s (.s .z))))))))))))) (.c (.s (.s (.s (.s (.s (.s (.s (.s (.s (.s (.s (.s (.s (.s .z)))))))))))))) (.c (.s (.s (.s (.s (.s (.s (.s (.s (.s (.s (.s (.s (.s (.s (.s .z))))))))))))))) (.c (.s (.s (.s (.s (.s (.s (.s (.s (.s (.s (.s (.s (.s (.s (.s (.s .z)))))))))))))))) (.c (.s (.s (.s (.s (.s (.s (.s (.s (.s (.s (.s (.s (.s (.s (.s (.s (.s .z))))))))))))))))) (.c (.s (.s (.s (.s (.s (.s (.s (.s (.s (.s (.s (.s (.s (.s (.s (.s (.s (.s .z)))))))))))))))))) (.c (.s (.s (.s (.s (.s (.s (.s (.s (.s (.s (.s (.s (.s (.s (.s (.s (.s (.s (.s .z))))))))))))))))))) (.c (.s (.s (.s (.s (.s (.s (.s (.s (.s (.s (.s (.s (.s (.s (.s (.s (.s (.s (.s (.s .z)))))))))))))))))))) (.c (.s (.s (.s (.s (.s (.s (.s (.s (.s (.s (.s (.s (.s (.s (.s (.s (.s (.s (.s (.s (.s .z))))))))))))))))))))) (.c (.s (.s (.s (.s (.s (.s (.s (.s (.s (.s (.s (.s (.s (.s (.s (.s (.s (.s (.s (.s (.s (.s .z)))))))))))))))))))))) (.c (.s (.s (.s (.s (.s (.s (.s (.s (.s (.s (.s (.s (.s (.s (.s (.s (.s (.s (.s (.s (.s (.s (.s .z))))))))))))))))))))))) (.c (.s (.s (.s (.s (.s (.s (.s (.s (.s (.s (.s (.s (.s (.s (.s (.s (.s (.s (.s (.s (.s (.s (.s (.s .z)))))))))))))))))))))))) (.c (.s (.s (.s (.s (.s (.s (.s (.s (.s (.s (.s (.s (.s (.s (.s (.s (.s (.s (.s (.s (.s (.s (.s (.s (.s (.s .z)))))))))))))))))))))))))) (.c (.s (.s (.s (.s (.s (.s (.s (.s (.s (.s (.s (.s (.s (.s (.s (.s (.s (.s (.s (.s (.s (.s (.s (.s (.s (.s (.s .z))))))))))))))))))))))))))) (.c (.s (.s (.s (.s (.s (.s (.s (.s (.s (.s (.s (.s (.s (.s (.s (.s (.s (.s (.s (.s (.s (.s (.s (.s (.s (.s (.s (.s .z)))))))))))))))))))))))))))) (.c (.s (.s (.s (.s (.s (.s (.s (.s (.s (.s (.s (.s (.s (.s (.s (.s (.s (.s (.s (.s (.s (.s (.s (.s (.s (.s (.s (.s (.s .z))))))))))))))))))))))))))))) (.c (.s (.s (.s (.s (.s (.s (.s (.s (.s (.s (.s (.s (.s (.s (.s (.s (.s (.s (.s (.s (.s (.s (.s (.s (.s (.s (.s (.s (.s (.s .z)))))))))))))))))))))))))))))) (.c (.s (.s (.s (.s (.s (.s (.s (.s (.s (.s (.s (.s (.s (.s (.s (.s (.s (.s (.s (.s (.s (.s (.s (.s (.s (.s (.s (.s (.s (.s (.s .z))))))))))))))))))))))))))))))) (.c (.s (.s (.s (.s (.s (.s (.s (.s (.s (.s (.s (.s (.s (.s (.s (.s (.s (.s (.s (.s (.s (.s (.s (.s (.s (.s (.s (.s (.s (.s (.s (.s .z)))))))))))))))))))))))))))))))) (.c (.s (.s (.s (.s (.s (.s (.s (.s (.s (.s (.s (.s (.s (.s (.s (.s (.s (.s (.s (.s (.s (.s (.s (.s (.s (.s (.s (.s (.s (.s (.s (.s (.s .z))))))))))))))))))))))))))))))))) .n)))))))))))))))))))))))) (.c .z (.c .z (.c .z (.c .z (.c .z (.c .z (.c .z (.c .z (.c .z .nil)))))))))
                    · refine mPass rfl rfl rfl .z (nbT (Bool.eq_false_iff.mpr h59)) rfl ?_
                      refine mPass rfl rfl rfl .z (nbT (Bool.eq_false_iff.mpr h59)) rfl ?_
                      refine mRdG rfl rfl rfl (.s (.s (.s (.s (.s (.s .z)))))) rfl (fun _ _ _ => dPickF (.t .z) (Bool.eq_false_iff.mpr h59) (.c rfl)) rfl rfl ?_
                      refine mRd rfl rfl (fun _ _ _ => dPickF (.t (.s (.s (.s (.s (.s (.s (.s .z)))))))) rfl (.t .z)) rfl rfl ?_
                      refine mNil ?_
                      exact xJoin (false, false, false, (!decide (o35 = a0)), (!decide (o35 = a0)), o35.f_Rows, o35.f_Cols) () (.c .z (.c (.s (.s (.s (.s (.s (.s (.s (.s .z)))))))) (.c (.s (.s (.s (.s (.s (.s (.s (.s (.s .z))))))))) (.c (.s (.s (.s (.s (.s (.s (.s (.s (.s (.s .z)))))))))) (.c (.s (.s (.s (.s (.s (.s (.s (.s (.s (.s (.s .z))))))))))) (.c (.s (.s (.s (.s (.s (.s (.s (.s (.s (.s (.s (.s .z)))))))))))) (.c (.s (.s (.s (.s (.s (.s (.s (.s (.s (.s (.s (.s (.s .z))))))))))))) (.c (.s (.s (.s (.s (.s (.s (.s (.s (.s (.s (.s (.s (.s (.s .z)))))))))))))) (.c (.s (.s (.s (.s (.s (.s (.s (.s (.s (.s (.s (.s (.s (.s (.s .z))))))))))))))) (.c (.s (.s (.s (.s (.s (.s (.s (.s (.s (.s (.s (.s (.s (.s (.s (.s .z)))))))))))))))) (.c (.s (.s (.s (.s (.s (.s (.s (.s (.s (.s (.s (.s (.s (.s (.s (.s (.s .z))))))))))))))))) (.c (.s (.s (.s (.s (.s (.s (.s (.s (.s (.s (.s (.s (.s (.s (.s (.s (.s (.s .z)))))))))))))))))) (.c (.s (.s (.s (.s (.s (.s (.s (.s (.s (.s (.s (.s (.s (.s (.s (.s (.s (.s (.s .z))))))))))))))))))) (.c (.s (.s (.s (.s (.s (.s (.s (.s (.s (.s (.s (.s (.s (.s (.s (.s (.s (.s (.s (.s .z)))))))))))))))))))) (.c (.s (.s (.s (.s (.s (.s (.s (.s (.s (.s (.s (.s (.s (.s (.s (.s (.s (.s (.s (.s (.s .z))))))))))))))))))))) (.c (.s (.s (.s (.s (.s (.s (.s (.s (.s (.s (.s (.s (.s (.s (.s (.s (.s (.s (.s (.s (.s (.s .z)))))))))))))))))))))) (.c (.s (.s (.s (.s (.s (.s (.s (.s (.s (.s (.s (.s (.s (.s (.s (.s (.s (.s (.s (.s (.s (.s (.s (.s .z)))))))))))))))))))))))) (.c (.s (.s (.s (.s (.s (.s (.s (.s (.s (.s (.s (.s (.s (.s (.s (.s (.s (.s (.s (.s (.s (.s (.s (.s (.s .z))))))))))))))))))))))))) (.c (.s (.s (.s (.s (.s (.s (.s (.s (.s (.s (.s (.s (.s (.s (.s (.s (.s (.s (.s (.s (.s (.s (.s (.s (.s (.s .z)))))))))))))))))))))))))) (.c (.s (.s (.s (.s (.s (.s (.s (.s (.s (.s (.s (.s (.s (.s (.s (.s (.s (.s (.s (.s (.s (.s (.s (.s (.s (.s (.s .z))))))))))))))))))))))))))) (.c (.s (.s (.s (.s (.s (.s (.s (.s (.s (.s (.s (.s (.s (.s (.s (.s (.s (.s (.s (.s (.s (.s (.s (.s (.s (.s (.s (.s .z)))))))))))))))))))))))))))) (.c (.s (.s (.s (.s (.s (.s (.s (.s (.s (.s (.s (.s (.s (.s (.s (.s (.s (.s (.s (.s (.s (.s (.s (.s (.s (.s (.s (.s (.s .z))))))))))))))))))))))))))))) (.c (.s (.s (.s (.s (.s (.s (.s (.s (.s (.s (.s (.s (.s (.s (.s (.s (.s (.s (.s (.s (.s (.s (.s (.s (.s (.s (.s (.s (.s (.s .z)))))))))))))))))))))))))))))) (.c (.s (.s (.s (.s (.s (.s (.s (.s (.s (.s (.s (.s (.s (.s (.s (.s (.s (.s (.s (.s (.s (.s (.s (.s (.s (.s (.s (.s (.s (.s (.s .z))))))))))))))))))))))))))))))) .n)))))))))))))))))))))))) (.c .z (.c .z (.c .z (.c .z (.c .z (.c .z (.c .z (.c .z (.c .z .nil)))))))))
                · refine xCode ?_
                  refine cCondB (.t .z) (fun h65 => ?_) (fun h65 => ?_)
                  · refine cSeq ?_
                    refine cRegion ?_
                    refine lRdK (dAssign (.c rfl)) (.k (.k (.k (.k (.k (.k (.k (.k (.k (.k (.k (.k (.k (.k (.k (.k (.k (.k (.k (.k (.k (.d (Keep.refl _))))))))))))))))))))))) rfl rfl ?_
                    refine lNil ?_
                    refine xCode ?_
                    refine cRet ?_
                    refine rInner ?_
                    refine rLeave hD ?_
                    exact lvRet (rs := [.tmp 6]) rfl (.t .z .n) () rfl .nil
                  · refine cSkip ?_
                    refine xBlock ?_
                    refine xCode ?_
                    refine cRegion ?_
                    refine lRd (dAddI (.t (.s (.s (.s (.s (.s (.s (.s (.s (.s (.s (.s (.s (.s (.s (.s (.s (.s .z)))))))))))))))))) (.c rfl)) rfl rfl ?_
                    refine lRdK (dMove (.t .z)) (.k (.k (.k (.k (.k (.k (.k (.k (.k (.k (.k (.k (.k (.k (.k (.k (.k (.k (.d (Keep.refl _)))))))))))))))))))) rfl rfl ?_
                    refine lNil ?_
                    exact xRound h22 (w64 (s18.1 + 1), o29.1.f_sizes_0.f_Rows, o29.1.f_sizes_0.f_Cols, o29.1.f_sizes_1.f_Rows, o29.1.f_sizes_1.f_Cols, o29.1.f_which, o29.1.f_p.f_size.f_Rows, o29.1.f_p.f_size.f_Cols, o29.1.f_p.f_cells, o29.1.f_p.f_cursor) (x30.1, x30.2) (.c .z (.c (.s (.s (.s (.s (.s (.s (.s (.s (.s (.s (.s (.s (.s (.s (.s (.s (.s (.s (.s .z))))))))))))))))))) (.c (.s (.s (.s (.s (.s (.s (.s (.s (.s (.s (.s (.s (.s (.s (.s (.s (.s (.s (.s (.s .z)))))))))))))))))))) (.c (.s (.s (.s (.s (.s (.s (.s (.s (.s (.s (.s (.s (.s (.s (.s (.s (.s (.s (.s (.s (.s .z))))))))))))))))))))) (.c (.s (.s (.s (.s (.s (.s (.s (.s (.s (.s (.s (.s (.s (.s (.s (.s (.s (.s (.s (.s (.s (.s .z)))))))))))))))))))))) (.c (.s (.s (.s (.s (.s (.s (.s (.s (.s (.s (.s (.s (.s (.s (.s (.s (.s (.s (.s (.s (.s (.s (.s .z))))))))))))))))))))))) (.c (.s (.s (.s (.s (.s (.s (.s (.s (.s (.s (.s (.s (.s (.s (.s (.s (.s (.s (.s (.s (.s (.s (.s (.s .z)))))))))))))))))))))))) .n))))))) (.c (.s (.s (.s (.s .z)))) (.c .z (.c .z (.c .z (.c (.s .z) (.c (.s .z) (.c (.s .z) (.c (.s .z) .nil))))))))
            · refine cExit ?_
              refine xOver ?_
              refine xOverF ?_
              exact xBreakR (s18.2.1, s18.2.2.1, s18.2.2.2.1, s18.2.2.2.2.1, s18.2.2.2.2.2.1, s18.2.2.2.2.2.2.1, s18.2.2.2.2.2.2.2.1, s18.2.2.2.2.2.2.2.2.1, s18.2.2.2.2.2.2.2.2.2) (x19.1, x19.2) (.c (.s (.s (.s (.s .z)))) (.c (.s (.s (.s (.s (.s .z))))) (.c (.s (.s (.s (.s (.s (.s .z)))))) .n))) (.c .z (.c .z (.c .z (.c .z (.c .z (.c .z (.c .z (.c .z .nil))))))))
          · refine xCode ?_
            refine cSeq ?_
            refine cRegion ?_
            refine lRd (dMove (.t .z)) rfl rfl ?_
            refine lCh (cBuildSlice (te := 5) (k := kB) (css := [[vB (241 : UInt8)], [vB (1 : UInt8)]]) (xs := ([(241 : UInt8), (1 : UInt8)] : List UInt8)) und_34 siz_5 zer_5 rfl (by decide) rfl (.c (.c (v' := vB 241) rfl) (.c (.c (v' := vB 1) rfl) .n)) rfl (fun zs h => match zs, h with | [_, _], _ => rfl) rfl (fun _ _ _ => (.cons rfl (.cons rfl .nil)))) rfl rfl fun b68 => ?_
            refine lSt (SX.freeze Upd.z) ?_
            refine lCallN fok_8 (.c (.t (.s .z)) (.c (.t .z) .n)) (screen_Screen_Run_c K (⟨(⟨s66.1, s66.2.1⟩ : api_Size), (⟨s66.2.2.1, s66.2.2.2.1⟩ : api_Size), s66.2.2.2.2.1, (⟨(⟨s66.2.2.2.2.2.1, s66.2.2.2.2.2.2.1⟩ : api_Size), s66.2.2.2.2.2.2.2.1, s66.2.2.2.2.2.2.2.2⟩ : plane_Plane)⟩ : screen_Screen) ([(241 : UInt8), (1 : UInt8)] : List UInt8) x8.1.1 x67.1 x67.2 (.slice (some ⟨b68, 0, none⟩) 2 2)) (.c (.s (.s .z)) (.c (.s (.s .z)) (.c (.s (.s .z)) (.r .z .n)))) rfl fun o69 x70 h71 => ?_
            refine lKeep (.d (.d (.k (.k (.k .n))))) ?_
            refine lNil ?_
            refine xCode ?_
            refine cSeq ?_
            refine cSeq ?_
            refine cRegion ?_
            refine lRd (dMove (.t .z)) rfl rfl ?_
            refine lCall fok_9 (.c (.t .z) .n) (screen_Screen_Plane_c o69.1 x8.1.1 x70.1 x70.2) (.c .z (.c .z (.c .z .n))) rfl rfl fun o72 x73 h74 => ?_
            refine lCall fok_12 (.c (.t .z) .n) (plane_Plane_Len_c o69.1.f_p x70.1 x70.2) (.c (.s .z) (.c (.s .z) .n)) rfl rfl fun o75 x76 h77 => ?_
            refine lRd (dMove (.c rfl)) rfl rfl ?_
            refine lKeep (.k (.k (.d (.d (.k (.k (.k .n))))))) ?_
            refine lNil ?_
            refine xCode ?_
            refine cLoopR (S := Int) (X := Unit) (S' := Unit) (X' := Unit) (law18_ScreenSizes_l2 K o69 o75) (fun (s : Int) (x : Unit) => [(74, .int .i64 s), (73, .int .i64 o75), (7, .pointer (some ⟨x8.1.1, 0, none⟩)), (6, .bool false), (4, .pointer (some ⟨b2, 0, none⟩))]) (fun (s : Int) (x : Unit) => [.blk x70.1 [.int .i64 o69.1.f_p.f_size.f_Rows, .int .i64 o69.1.f_p.f_size.f_Cols, x70.2, .int .i64 o69.1.f_p.f_cursor] 66, .own x70.2 44 k_api_Cell o69.1.f_p.f_cells, .blk x8.1.1 [.int .i64 o69.1.f_sizes_0.f_Rows, .int .i64 o69.1.f_sizes_0.f_Cols, .int .i64 o69.1.f_sizes_1.f_Rows, .int .i64 o69.1.f_sizes_1.f_Cols, .int .i64 o69.1.f_which, .pointer (some ⟨x70.1, 0, none⟩)] 64, .ro (kSl kB) [.slice (some ⟨b68, 0, none⟩) 2 2] ([(241 : UInt8), (1 : UInt8)] : List UInt8), .blk b13 [.int .i64 o7.2.f_Plain.f_Rows, .int .i64 o7.2.f_Plain.f_Cols, .int .i64 o7.2.f_More.f_Rows, .int .i64 o7.2.f_More.f_Cols, .int .i64 o7.2.f_P.f_Size.f_Rows, .int .i64 o7.2.f_P.f_Size.f_Cols, x8.1.2.2.2, .int .i64 o7.2.f_P.f_Cursor, .bool o7.2.f_Other] 31, .ro (kSl k_api_Cell) [x8.1.2.2.2] o7.2.f_P.f_Cells, .blk b2 [.int .i64 a1.f_Rows, .int .i64 a1.f_Cols] 23, .blk b1 [.int .i64 a0.f_Rows, .int .i64 a0.f_Cols] 23, .ro (kSl (kSl kB)) [v2_0] a2]) (fun (s : Unit) (x : Unit) => [(7, .pointer (some ⟨x8.1.1, 0, none⟩)), (6, .bool false), (4, .pointer (some ⟨b2, 0, none⟩))]) (fun (s : Unit) (x : Unit) => [.blk x70.1 [.int .i64 o69.1.f_p.f_size.f_Rows, .int .i64 o69.1.f_p.f_size.f_Cols, x70.2, .int .i64 o69.1.f_p.f_cursor] 66, .own x70.2 44 k_api_Cell o69.1.f_p.f_cells, .blk x8.1.1 [.int .i64 o69.1.f_sizes_0.f_Rows, .int .i64 o69.1.f_sizes_0.f_Cols, .int .i64 o69.1.f_sizes_1.f_Rows, .int .i64 o69.1.f_sizes_1.f_Cols, .int .i64 o69.1.f_which, .pointer (some ⟨x70.1, 0, none⟩)] 64, .ro (kSl kB) [.slice (some ⟨b68, 0, none⟩) 2 2] ([(241 : UInt8), (1 : UInt8)] : List UInt8), .blk b13 [.int .i64 o7.2.f_Plain.f_Rows, .int .i64 o7.2.f_Plain.f_Cols, .int .i64 o7.2.f_More.f_Rows, .int .i64 o7.2.f_More.f_Cols, .int .i64 o7.2.f_P.f_Size.f_Rows, .int .i64 o7.2.f_P.f_Size.f_Cols, x8.1.2.2.2, .int .i64 o7.2.f_P.f_Cursor, .bool o7.2.f_Other] 31, .ro (kSl k_api_Cell) [x8.1.2.2.2] o7.2.f_P.f_Cells, .blk b2 [.int .i64 a1.f_Rows, .int .i64 a1.f_Cols] 23, .blk b1 [.int .i64 a0.f_Rows, .int .i64 a0.f_Cols] 23, .ro (kSl (kSl kB)) [v2_0] a2]) K 0 () (.c .z (.c (.s .z) (.c (.s (.s .z)) (.c (.s (.s (.s .z))) (.c (.s (.s (.s (.s .z)))) .n))))) (.c .z (.c .z (.c .z (.c .z (.c .z (.c .z (.c .z (.c .z (.c .z .nil))))))))) (fun _ => rfl) (fun n80 I81 h82 s78 x79 => ?_) (fun s95 x96 => ?_)
            · rw [law18_ScreenSizes_l2]
              refine cSeq ?_
              refine cRegion ?_
              refine lRd (dLt (.t .z) (.t (.s .z))) rfl rfl ?_
              refine lNil ?_
              refine xCode ?_
              refine cSeq ?_
              refine cCond (.t .z) (fun h83 => ?_) (fun h83 => ?_)
              · refine cSkip ?_
                refine xCode ?_
                refine cSeq ?_
                refine cBlock ?_
                refine cSeq ?_
                refine cRegion ?_
                refine lRd (dMove (.t (.s .z))) rfl rfl ?_
                refine lRd (dAssign (.t .z)) rfl rfl ?_
                refine lNil ?_
                refine xCode ?_
                refine cSeq ?_
                refine cRegion ?_
                refine lRd (dMove (.t (.s (.s (.s (.s (.s .z))))))) rfl rfl ?_
                refine lCall fok_9 (.c (.t .z) .n) (screen_Screen_Plane_c o69.1 x8.1.1 x70.1 x70.2) (.c (.s (.s .z)) (.c .z (.c .z .n))) rfl rfl fun o84 x85 h86 => ?_
                refine lRd (dMove (.t (.s (.s .z)))) rfl rfl ?_
                refine lCall fok_13 (.c (.t (.s .z)) (.c (.t .z) .n)) (plane_Plane_At_c o69.1.f_p s78 x70.1 x70.2) (.c (.s .z) (.c (.s .z) .n)) rfl rfl fun o87 x88 h89 => ?_
                refine lCh (cAlloc (cs := [vB 0, .bool false, .bool false, vB 0, vB 0]) zer_44 rfl) rfl rfl fun b90 => ?_
                refine lChU (uStoreA (us := [vB o87.f_Byte, .bool o87.f_GE, .bool o87.f_Start, vB o87.f_Light, vB o87.f_Color]) (cs' := [vB o87.f_Byte, .bool o87.f_GE, .bool o87.f_Start, vB o87.f_Light, vB o87.f_Color]) .z siz_44 rfl (by intro u hu; simp only [List.mem_cons, List.not_mem_nil, or_false] at hu; rcases hu with rfl | rfl | rfl | rfl | rfl <;> first | rfl | assumption) rfl (by simp) (.t .z) (.t (.s .z))) ?_
                refine lNil ?_
                refine xCode ?_
                refine cSeq ?_
                refine cJoin (S := Bool) (X := Unit) (fun (s : Bool) (x : Unit) => [(88, .bool s), (83, .bool o87.f_Start), (82, .bool o87.f_Start), (81, .pointer (some ⟨b90, 2, none⟩)), (13, .pointer (some ⟨b90, 0, none⟩)), (80, .agg #[vB o87.f_Byte, .bool o87.f_GE, .bool o87.f_Start, vB o87.f_Light, vB o87.f_Color]), (79, .int .i64 s78), (78, .pointer (some ⟨x70.1, 0, none⟩)), (77, .pointer (some ⟨x8.1.1, 0, none⟩)), (12, .int .i64 s78), (76, .int .i64 s78), (75, .bool (decide (s78 < o75))), (74, .int .i64 s78), (73, .int .i64 o75), (7, .pointer (some ⟨x8.1.1, 0, none⟩)), (6, .bool false), (4, .pointer (some ⟨b2, 0, none⟩))]) (fun (s : Bool) (x : Unit) => [.blk b90 [vB o87.f_Byte, .bool o87.f_GE, .bool o87.f_Start, vB o87.f_Light, vB o87.f_Color] 44, .blk x70.1 [.int .i64 o69.1.f_p.f_size.f_Rows, .int .i64 o69.1.f_p.f_size.f_Cols, x70.2, .int .i64 o69.1.f_p.f_cursor] 66, .own x70.2 44 k_api_Cell o69.1.f_p.f_cells, .blk x8.1.1 [.int .i64 o69.1.f_sizes_0.f_Rows, .int .i64 o69.1.f_sizes_0.f_Cols, .int .i64 o69.1.f_sizes_1.f_Rows, .int .i64 o69.1.f_sizes_1.f_Cols, .int .i64 o69.1.f_which, .pointer (some ⟨x70.1, 0, none⟩)] 64, .ro (kSl kB) [.slice (some ⟨b68, 0, none⟩) 2 2] ([(241 : UInt8), (1 : UInt8)] : List UInt8), .blk b13 [.int .i64 o7.2.f_Plain.f_Rows, .int .i64 o7.2.f_Plain.f_Cols, .int .i64 o7.2.f_More.f_Rows, .int .i64 o7.2.f_More.f_Cols, .int .i64 o7.2.f_P.f_Size.f_Rows, .int .i64 o7.2.f_P.f_Size.f_Cols, x8.1.2.2.2, .int .i64 o7.2.f_P.f_Cursor, .bool o7.2.f_Other] 31, .ro (kSl k_api_Cell) [x8.1.2.2.2] o7.2.f_P.f_Cells, .blk b2 [.int .i64 a1.f_Rows, .int .i64 a1.f_Cols] 23, .blk b1 [.int .i64 a0.f_Rows, .int .i64 a0.f_Cols] 23, .ro (kSl (kSl kB)) [v2_0] a2]) ?_ (fun s92 x93 => ?_)
                · refine cRegion ?_
                  refine lRd (dFld fld_44_2 (by decide) (.t .z) rfl) rfl rfl ?_
                  refine lRd (dLoad .z agg_4 (.t .z) rfl) rfl rfl ?_
                  refine lRd (dMove (.t .z)) rfl rfl ?_
                  refine lCase (fun h91 => ?_) (fun h91 => ?_)
                  · refine lRdG rfl .z h91 (dFld fld_44_0 (by decide) (.t (.s (.s (.s .z)))) rfl) rfl rfl ?_
                    refine lRdG rfl (.s .z) h91 (dLoad .z agg_5 (.t .z) rfl) rfl rfl ?_
                    refine lRdG rfl (.s (.s .z)) h91 (dAndB (.t .z) (.c (v' := vB 1) rfl)) rfl rfl ?_
                    refine lRdG rfl (.s (.s (.s .z))) h91 (dEqB (.t .z) (.c (v' := vB 1) rfl)) rfl rfl ?_
                    refine lRd (dPickT (.t (.s (.s (.s (.s .z))))) h91 (.t .z)) rfl rfl ?_
                    refine lNil ?_
                    exact xJoin (decide ((o87.f_Byte &&& (1 : UInt8)) = (1 : UInt8))) () (.c .z (.c (.s (.s (.s (.s (.s .z))))) (.c (.s (.s (.s (.s (.s (.s .z)))))) (.c (.s (.s (.s (.s (.s (.s (.s .z))))))) (.c (.s (.s (.s (.s (.s (.s (.s (.s .z)))))))) (.c (.s (.s (.s (.s (.s (.s (.s (.s (.s .z))))))))) (.c (.s (.s (.s (.s (.s (.s (.s (.s (.s (.s .z)))))))))) (.c (.s (.s (.s (.s (.s (.s (.s (.s (.s (.s (.s .z))))))))))) (.c (.s (.s (.s (.s (.s (.s (.s (.s (.s (.s (.s (.s .z)))))))))))) (.c (.s (.s (.s (.s (.s (.s (.s (.s (.s (.s (.s (.s (.s .z))))))))))))) (.c (.s (.s (.s (.s (.s (.s (.s (.s (.s (.s (.s (.s (.s (.s .z)))))))))))))) (.c (.s (.s (.s (.s (.s (.s (.s (.s (.s (.s (.s (.s (.s (.s (.s .z))))))))))))))) (.c (.s (.s (.s (.s (.s (.s (.s (.s (.s (.s (.s (.s (.s (.s (.s (.s .z)))))))))))))))) (.c (.s (.s (.s (.s (.s (.s (.s (.s (.s (.s (.s (.s (.s (.s (.s (.s (.s .z))))))))))))))))) (.c (.s (.s (.s (.s (.s (.s (.s (.s (.s (.s (.s (.s (.s (.s (.s (.s (.s (.s .z)))))))))))))))))) (.c (.s (.s (.s (.s (.s (.s (.s (.s (.s (.s (.s (.s (.s (.s (.s (.s (.s (.s (.s .z))))))))))))))))))) (.c (.s (.s (.s (.s (.s (.s (.s (.s (.s (.s (.s (.s (.s (.s (.s (.s (.s (.s (.s (.s .z)))))))))))))))))))) .n))))))))))))))))) (.c .z (.c .z (.c .z (.c .z (.c .z (.c .z (.c .z (.c .z (.c .z (.c .z .nil))))))))))
                  · refine lPass rfl .z (nbT (Bool.eq_false_iff.mpr h91)) rfl ?_
                    refine lPass rfl .z (nbT (Bool.eq_false_iff.mpr h91)) rfl ?_
                    refine lPass rfl .z (nbT (Bool.eq_false_iff.mpr h91)) rfl ?_
                    refine lPass rfl .z (nbT (Bool.eq_false_iff.mpr h91)) rfl ?_
                    refine lRd (dPickF (.t .z) (Bool.eq_false_iff.mpr h91) (.c rfl)) rfl rfl ?_
                    refine lNil ?_
                    exact xJoin false () (.c .z (.c (.s .z) (.c (.s (.s .z)) (.c (.s (.s (.s .z))) (.c (.s (.s (.s (.s .z)))) (.c (.s (.s (.s (.s (.s .z))))) (.c (.s (.s (.s (.s (.s (.s .z)))))) (.c (.s (.s (.s (.s (.s (.s (.s .z))))))) (.c (.s (.s (.s (.s (.s (.s (.s (.s .z)))))))) (.c (.s (.s (.s (.s (.s (.s (.s (.s (.s .z))))))))) (.c (.s (.s (.s (.s (.s (.s (.s (.s (.s (.s .z)))))))))) (.c (.s (.s (.s (.s (.s (.s (.s (.s (.s (.s (.s .z))))))))))) (.c (.s (.s (.s (.s (.s (.s (.s (.s (.s (.s (.s (.s .z)))))))))))) (.c (.s (.s (.s (.s (.s (.s (.s (.s (.s (.s (.s (.s (.s .z))))))))))))) (.c (.s (.s (.s (.s (.s (.s (.s (.s (.s (.s (.s (.s (.s (.s .z)))))))))))))) (.c (.s (.s (.s (.s (.s (.s (.s (.s (.s (.s (.s (.s (.s (.s (.s .z))))))))))))))) (.c (.s (.s (.s (.s (.s (.s (.s (.s (.s (.s (.s (.s (.s (.s (.s (.s .z)))))))))))))))) .n))))))))))))))))) (.c .z (.c .z (.c .z (.c .z (.c .z (.c .z (.c .z (.c .z (.c .z (.c .z .nil))))))))))
                · refine xCode ?_
                  refine cCondB (.t .z) (fun h94 => ?_) (fun h94 => ?_)
                  · refine cSeq ?_
                    refine cRegion ?_
                    refine lRdK (dAssign (.c rfl)) (.k (.k (.k (.k (.k (.k (.k (.k (.k (.k (.k (.k (.k (.k (.k (.d (Keep.refl _))))))))))))))))) rfl rfl ?_
                    refine lNil ?_
                    refine xCode ?_
                    refine cRet ?_
                    refine rInner ?_
                    refine rLeave hD ?_
                    exact lvRet (rs := [.tmp 6]) rfl (.t .z .n) () rfl .nil
                  · refine cSkip ?_
                    refine xBlock ?_
                    refine xCode ?_
                    refine cRegion ?_
                    refine lRd (dAddI (.t (.s (.s (.s (.s (.s (.s (.s (.s (.s (.s (.s (.s .z))))))))))))) (.c rfl)) rfl rfl ?_
                    refine lRdK (dMove (.t .z)) (.k (.k (.k (.k (.k (.k (.k (.k (.k (.k (.k (.k (.k (.d (Keep.refl _))))))))))))))) rfl rfl ?_
                    refine lNil ?_
                    exact xRound h82 (w64 (s78 + 1)) () (.c .z (.c (.s (.s (.s (.s (.s (.s (.s (.s (.s (.s (.s (.s (.s (.s .z)))))))))))))) (.c (.s (.s (.s (.s (.s (.s (.s (.s (.s (.s (.s (.s (.s (.s (.s .z))))))))))))))) (.c (.s (.s (.s (.s (.s (.s (.s (.s (.s (.s (.s (.s (.s (.s (.s (.s .z)))))))))))))))) (.c (.s (.s (.s (.s (.s (.s (.s (.s (.s (.s (.s (.s (.s (.s (.s (.s (.s .z))))))))))))))))) .n))))) (.c (.s .z) (.c (.s .z) (.c (.s .z) (.c (.s .z) (.c (.s .z) (.c (.s .z) (.c (.s .z) (.c (.s .z) (.c (.s .z) .nil)))))))))
              · refine cExit ?_
                refine xOver ?_
                refine xOverF ?_
                exact xBreakR () () (.c (.s (.s (.s .z))) (.c (.s (.s (.s (.s .z)))) (.c (.s (.s (.s (.s (.s .z))))) .n))) (.c .z (.c .z (.c .z (.c .z (.c .z (.c .z (.c .z (.c .z (.c .z .nil)))))))))
            · refine xCode ?_
              refine cSeq ?_
              refine cRegion ?_
              refine lRd (dMove (.t .z)) rfl rfl ?_
              refine lCh (cBuildSlice (te := 5) (k := kB) (css := [[vB (126 : UInt8)], [vB (0 : UInt8)]]) (xs := ([(126 : UInt8), (0 : UInt8)] : List UInt8)) und_34 siz_5 zer_5 rfl (by decide) rfl (.c (.c (v' := vB 126) rfl) (.c (.c (v' := vB 0) rfl) .n)) rfl (fun zs h => match zs, h with | [_, _], _ => rfl) rfl (fun _ _ _ => (.cons rfl (.cons rfl .nil)))) rfl rfl fun b97 => ?_
              refine lSt (SX.freeze Upd.z) ?_
              refine lCall fok_8 (.c (.t (.s .z)) (.c (.t .z) .n)) (screen_Screen_Run_c K o69.1 ([(126 : UInt8), (0 : UInt8)] : List UInt8) x8.1.1 x70.1 x70.2 (.slice (some ⟨b97, 0, none⟩) 2 2)) (.c (.s (.s (.s .z))) (.c (.s .z) (.c (.s .z) (.r .z .n)))) rfl rfl fun o98 x99 h100 => ?_
              refine lCh (cAlloc (cs := [vB 0, .bool false, .bool false, .int .i64 0]) zer_37 rfl) rfl rfl fun b101 => ?_
              refine lChU (uStoreA (us := [vB o98.2.f_Reply, .bool o98.2.f_Restore, .bool o98.2.f_Alarm, .int .i64 o98.2.f_Err]) (cs' := [vB o98.2.f_Reply, .bool o98.2.f_Restore, .bool o98.2.f_Alarm, .int .i64 o98.2.f_Err]) .z siz_37 rfl (by intro u hu; simp only [List.mem_cons, List.not_mem_nil, or_false] at hu; rcases hu with rfl | rfl | rfl | rfl <;> first | rfl | assumption) rfl (by simp) (.t .z) (.t (.s .z))) ?_
              refine lKeep (.k (.d (.d (.d (.k (.k (.k .n))))))) ?_
              refine lNil ?_
              refine xCode ?_
              refine cSeq ?_
              refine cRegion ?_
              refine lRd (dMove (.t (.s .z))) rfl rfl ?_
              refine lCall fok_11 (.c (.t .z) .n) (screen_Screen_Other_c o98.1 x8.1.1 x99.1 x99.2) (.c (.s .z) (.c (.s .z) (.c (.s .z) .n))) rfl rfl fun o102 x103 h104 => ?_
              refine lRd (dAssign (.t .z)) rfl rfl ?_
              refine lKeep (.k (.d (.d (.k (.k (.k (.k .n))))))) ?_
              refine lNil ?_
              refine xCode ?_
              refine cSeq ?_
              refine cRegion ?_
              refine lRd (dMove (.t (.s (.s .z)))) rfl rfl ?_
              refine lCh (cBuildSlice (te := 5) (k := kB) (css := [[vB (243 : UInt8)], [vB (0 : UInt8)], [vB (4 : UInt8)], [vB (3 : UInt8)], [vB (0 : UInt8)]]) (xs := ([(243 : UInt8), (0 : UInt8), (4 : UInt8), (3 : UInt8), (0 : UInt8)] : List UInt8)) und_34 siz_5 zer_5 rfl (by decide) rfl (.c (.c (v' := vB 243) rfl) (.c (.c (v' := vB 0) rfl) (.c (.c (v' := vB 4) rfl) (.c (.c (v' := vB 3) rfl) (.c (.c (v' := vB 0) rfl) .n))))) rfl (fun zs h => match zs, h with | [_, _, _, _, _], _ => rfl) rfl (fun _ _ _ => (.cons rfl (.cons rfl (.cons rfl (.cons rfl (.cons rfl .nil))))))) rfl rfl fun b105 => ?_
              refine lSt (SX.freeze Upd.z) ?_
              refine lCall fok_8 (.c (.t (.s .z)) (.c (.t .z) .n)) (screen_Screen_Run_c K o98.1 ([(243 : UInt8), (0 : UInt8), (4 : UInt8), (3 : UInt8), (0 : UInt8)] : List UInt8) x8.1.1 x99.1 x99.2 (.slice (some ⟨b105, 0, none⟩) 5 5)) (.c (.s .z) (.c (.s .z) (.c (.s .z) (.r .z .n)))) rfl rfl fun o106 x107 h108 => ?_
              refine lCh (cAlloc (cs := [vB 0, .bool false, .bool false, .int .i64 0]) zer_37 rfl) rfl rfl fun b109 => ?_
              refine lChU (uStoreA (us := [vB o106.2.f_Reply, .bool o106.2.f_Restore, .bool o106.2.f_Alarm, .int .i64 o106.2.f_Err]) (cs' := [vB o106.2.f_Reply, .bool o106.2.f_Restore, .bool o106.2.f_Alarm, .int .i64 o106.2.f_Err]) .z siz_37 rfl (by intro u hu; simp only [List.mem_cons, List.not_mem_nil, or_false] at hu; rcases hu with rfl | rfl | rfl | rfl <;> first | rfl | assumption) rfl (by simp) (.t .z) (.t (.s .z))) ?_
              refine lKeep (.k (.d (.d (.d (.k (.k (.k (.k (.k .n))))))))) ?_
              refine lNil ?_
              refine xCode ?_
              refine cSeq ?_
              refine cRegion ?_
              refine lRd (dMove (.t (.s (.s (.s .z))))) rfl rfl ?_
              refine lCall fok_11 (.c (.t .z) .n) (screen_Screen_Other_c o106.1 x8.1.1 x107.1 x107.2) (.c (.s .z) (.c (.s .z) (.c (.s .z) .n))) rfl rfl fun o110 x111 h112 => ?_
              refine lRd (dNot (.t .z)) rfl rfl ?_
              refine lRd (dAssign (.t .z)) rfl rfl ?_
              refine lKeep (.k (.d (.d (.d (.k (.k (.k (.k (.k (.k .n)))))))))) ?_
              refine lNil ?_
              refine xCode ?_
              refine cSeq ?_
              refine cRegion ?_
              refine lRd (dMove (.t (.s (.s (.s (.s .z)))))) rfl rfl ?_
              refine lCh (cBuildSlice (te := 5) (k := kB) (css := [[vB (243 : UInt8)], [vB (0 : UInt8)], [vB (4 : UInt8)], [vB (3 : UInt8)], [vB (128 : UInt8)]]) (xs := ([(243 : UInt8), (0 : UInt8), (4 : UInt8), (3 : UInt8), (128 : UInt8)] : List UInt8)) und_34 siz_5 zer_5 rfl (by decide) rfl (.c (.c (v' := vB 243) rfl) (.c (.c (v' := vB 0) rfl) (.c (.c (v' := vB 4) rfl) (.c (.c (v' := vB 3) rfl) (.c (.c (v' := vB 128) rfl) .n))))) rfl (fun zs h => match zs, h with | [_, _, _, _, _], _ => rfl) rfl (fun _ _ _ => (.cons rfl (.cons rfl (.cons rfl (.cons rfl (.cons rfl .nil))))))) rfl rfl fun b113 => ?_
              refine lSt (SX.freeze Upd.z) ?_
              refine lCallN fok_8 (.c (.t (.s .z)) (.c (.t .z) .n)) (screen_Screen_Run_c K o106.1 ([(243 : UInt8), (0 : UInt8), (4 : UInt8), (3 : UInt8), (128 : UInt8)] : List UInt8) x8.1.1 x107.1 x107.2 (.slice (some ⟨b113, 0, none⟩) 5 5)) (.c (.s .z) (.c (.s .z) (.c (.s .z) (.r .z .n)))) rfl fun o114 x115 h116 => ?_
              refine lKeep (.d (.d (.k (.k (.k (.k (.k (.k (.k .n))))))))) ?_
              refine lNil ?_
              refine xCode ?_
              refine cSeq ?_
              refine cRegionM [] [(0, .early), (1, .early), (2, .early), (3, .early), (4, .early), (5, .early), (6, .early), (7, .early), (8, .early), (9, .early), (10, .early), (11, .early), (12, .early), (13, .early), (14, .early), (15, .early), (16, .early), (17, .early), (18, .early), (19, .early), (20, .early), (21, .early), (22, .early), (23, .early), (24, .early), (25, .early)] mixed (by kernel_rfl) (.c .z (.c .z (.c .z (.c .z (.c .z (.c .z (.c .z (.c .z (.c .z (.c .z (.c .z (.c .z (.c .z (.c .z .nil)))))))))))))) (.c (.c (.c (.c (.c (.c (.c (.c (.c (.c (.c (.c (.c (.c .n)))))))))))))) ?_
              refine mRd rfl rfl (fun _ _ _ => dFld fld_37_3 (by decide) (.t (.s (.s (.s .z)))) rfl) rfl rfl ?_
              refine mRd rfl rfl (fun _ _ _ => dLoad (.s (.s (.s (.s (.s (.s .z)))))) agg_35 (.t .z) rfl) rfl rfl ?_
              refine mRd rfl rfl (fun _ _ _ => dEq (.t .z) (.c rfl)) rfl rfl ?_
              refine mRd rfl rfl (fun _ _ _ => dMove (.t .z)) rfl rfl ?_
              refine mCase (fun h117 => ?_) (fun h117 => ?_)
              · refine mRdG rfl rfl rfl .z (decide_eq_true h117) (fun _ _ _ => dMove (.t (.s (.s (.s (.s (.s (.s .z)))))))) rfl rfl ?_
                refine mRd rfl rfl (fun _ _ _ => dPickT (.t (.s .z)) (decide_eq_true h117) (.t .z)) rfl rfl ?_
                refine mRd rfl rfl (fun _ _ _ => dMove (.t .z)) rfl rfl ?_
                refine mCase (fun h118 => ?_) (fun h118 => ?_)
                · refine mRdG rfl rfl rfl .z h118 (fun _ _ _ => dFld fld_37_3 (by decide) (.t (.s (.s (.s (.s (.s (.s (.s (.s .z))))))))) rfl) rfl rfl ?_
                  refine mRdG rfl rfl rfl (.s .z) h118 (fun _ _ _ => dLoad (.s (.s (.s (.s .z)))) agg_35 (.t .z) rfl) rfl rfl ?_
                  refine mRdG rfl rfl rfl (.s (.s .z)) h118 (fun _ _ _ => dEq (.t .z) (.c rfl)) rfl rfl ?_
                  refine mRd rfl rfl (fun _ _ _ => dPickT (.t (.s (.s (.s .z)))) h118 (.t .z)) rfl rfl ?_
                  refine mRd rfl rfl (fun _ _ _ => dMove (.t .z)) rfl rfl ?_
                  refine mCase (fun h119 => ?_) (fun h119 => ?_)
                  · refine mRdG rfl rfl rfl .z (decide_eq_true h119) (fun _ _ _ => dMove (.t (.s (.s (.s (.s (.s (.s (.s (.s (.s (.s (.s (.s .z)))))))))))))) rfl rfl ?_
                    refine mRd rfl rfl (fun _ _ _ => dPickT (.t (.s .z)) (decide_eq_true h119) (.t .z)) rfl rfl ?_
                    refine mRd rfl rfl (fun _ _ _ => dMove (.t .z)) rfl rfl ?_
                    refine mCase (fun h120 => ?_) (fun h120 => ?_)
                    · refine mRdG rfl rfl rfl .z h120 (fun _ _ _ => dMove (.t (.s (.s (.s (.s (.s (.s (.s (.s (.s (.s (.s (.s (.s (.s (.s (.s (.s (.s (.s .z))))))))))))))))))))) rfl rfl ?_
                      refine mCallQG rfl rfl rfl (.s .z) h120 fok_11 (.c (.t .z) .n) (screen_Screen_Other_c o114.1 x8.1.1 x115.1 x115.2) (.c .z (.c .z (.c .z .n))) (fun _ _ => rfl) (fun _ _ => (.c .z (.c .z (.c .z (.c .z (.c .z (.c .z (.c .z (.c .z (.c .z (.c .z (.c .z (.c .z (.c .z (.c .z .nil))))))))))))))) rfl rfl fun o121 h123 => ?_
                      refine mRd rfl rfl (fun _ _ _ => dPickT (.t (.s (.s .z))) h120 (.t .z)) rfl rfl ?_
                      refine mRd rfl rfl (fun _ _ _ => dMove (.t .z)) rfl rfl ?_
                      refine mCase (fun h124 => ?_) (fun h124 => ?_)
                      · refine mRdG rfl rfl rfl .z h124 (fun _ _ _ => dMove (.t (.s (.s (.s (.s (.s (.s (.s (.s (.s (.s (.s (.s (.s (.s (.s (.s (.s (.s (.s (.s (.s (.s (.s .z))))))))))))))))))))))))) rfl rfl ?_
                        refine mCallQG rfl rfl rfl (.s .z) h124 fok_9 (.c (.t .z) .n) (screen_Screen_Plane_c o114.1 x8.1.1 x115.1 x115.2) (.c .z (.c .z (.c .z .n))) (fun _ _ => rfl) (fun _ _ => (.c .z (.c .z (.c .z (.c .z (.c .z (.c .z (.c .z (.c .z (.c .z (.c .z (.c .z (.c .z (.c .z (.c .z .nil))))))))))))))) rfl rfl fun o125 h127 => ?_
                        refine mCallQG rfl rfl rfl (.s (.s .z)) h124 fok_10 (.c (.t .z) .n) (plane_Plane_Size_c o114.1.f_p x115.1 x115.2) (.c (.s .z) (.c (.s .z) .n)) (fun _ _ => rfl) (fun _ _ => (.c (.s (.s .z)) (.c .z (.c .z (.c .z (.c .z (.c .z (.c .z (.c .z (.c .z (.c .z (.c .z (.c .z (.c .z (.c .z .nil))))))))))))))) rfl rfl fun o128 h130 => ?_
                        refine mRdG rfl rfl rfl (.s (.s (.s .z))) h124 (fun _ _ _ => dLoadA (us := [.int .i64 a1.f_Rows, .int .i64 a1.f_Cols]) (.s (.s (.s (.s (.s (.s (.s (.s (.s (.s (.s .z))))))))))) agg_23 siz_23 rfl (.t (.s (.s (.s (.s (.s (.s (.s (.s (.s (.s (.s (.s (.s (.s (.s (.s (.s (.s (.s (.s (.s (.s (.s (.s (.s (.s (.s (.s .z))))))))))))))))))))))))))))) rfl) rfl rfl ?_
                        refine mRdG rfl rfl rfl (.s (.s (.s (.s .z)))) h124 (fun _ _ _ => dEqA eqg_23 (eqa_23 o128 a1) (.t (.s .z)) (.t .z)) rfl rfl ?_
                        refine mRd rfl rfl (fun _ _ _ => dPickT (.t (.s (.s (.s (.s (.s .z)))))) h124 (.t .z)) rfl rfl ?_
                        refine mRdK rfl rfl (fun _ _ _ => dAssign (.t .z)) (.k (.k (.k (.k (.k (.k (.k (.k (.k (.k (.k (.k (.k (.k (.k (.k (.k (.k (.k (.k (.k (.k (.k (.k (.k (.k (.k (.k (.k (.k (.d (Keep.refl _)))))))))))))))))))))))))))))))) rfl rfl ?_
                        refine mKeep (.k .n) ?_
                        refine mNil ?_
                        refine xCode ?_
                        refine cRet ?_
                        refine rLeave hD ?_
                        exact lvRet (rs := [.tmp 6]) rfl (.t .z .n) () rfl .nil
                      · refine mPass rfl rfl rfl .z (nbT (Bool.eq_false_iff.mpr h124)) rfl ?_
                        refine mPass rfl rfl rfl .z (nbT (Bool.eq_false_iff.mpr h124)) rfl ?_
                        refine mPass rfl rfl rfl .z (nbT (Bool.eq_false_iff.mpr h124)) rfl ?_
                        refine mPass rfl rfl rfl .z (nbT (Bool.eq_false_iff.mpr h124)) rfl ?_
                        refine mPass rfl rfl rfl .z (nbT (Bool.eq_false_iff.mpr h124)) rfl ?_
                        refine mRd rfl rfl (fun _ _ _ => dPickF (.t .z) (Bool.eq_false_iff.mpr h124) (.c rfl)) rfl rfl ?_
                        refine mRdK rfl rfl (fun _ _ _ => dAssign (.t .z)) (.k (.k (.k (.k (.k (.k (.k (.k (.k (.k (.k (.k (.k (.k (.k (.k (.k (.k (.k (.k (.k (.k (.k (.k (.k (.d (Keep.refl _))))))))))))))))))))))))))) rfl rfl ?_
                        refine mKeep (.k .n) ?_
                        refine mNil ?_
                        refine xCode ?_
                        refine cRet ?_
                        refine rLeave hD ?_
                        exact lvRet (rs := [.tmp 6]) rfl (.t .z .n) () rfl .nil
                    · refine mPass rfl rfl rfl .z (nbT (Bool.eq_false_iff.mpr h120)) rfl ?_
                      refine mPass rfl rfl rfl .z (nbT (Bool.eq_false_iff.mpr h120)) rfl ?_
                      refine mRd rfl rfl (fun _ _ _ => dPickF (.t .z) (Bool.eq_false_iff.mpr h120) (.c rfl)) rfl rfl ?_
                      refine mRd rfl rfl (fun _ _ _ => dMove (.t .z)) rfl rfl ?_
                      refine mPass rfl rfl rfl .z (nbT rfl) rfl ?_
                      refine mPass rfl rfl rfl .z (nbT rfl) rfl ?_
                      refine mPass rfl rfl rfl .z (nbT rfl) rfl ?_
                      refine mPass rfl rfl rfl .z (nbT rfl) rfl ?_
                      refine mPass rfl rfl rfl .z (nbT rfl) rfl ?_
                      refine mRd rfl rfl (fun _ _ _ => dPickF (.t .z) rfl (.c rfl)) rfl rfl ?_
                      refine mRdK rfl rfl (fun _ _ _ => dAssign (.t .z)) (.k (.k (.k (.k (.k (.k (.k (.k (.k (.k (.k (.k (.k (.k (.k (.k (.k (.k (.k (.k (.k (.k (.k (.d (Keep.refl _))))))))))))))))))))))))) rfl rfl ?_
                      refine mKeep (.k .n) ?_
                      refine mNil ?_
                      refine xCode ?_
                      refine cRet ?_
                      refine rLeave hD ?_
                      exact lvRet (rs := [.tmp 6]) rfl (.t .z .n) () rfl .nil
                  · refine mPass rfl rfl rfl .z (nbT (decide_eq_false h119)) rfl ?_
                    refine mRd rfl rfl (fun _ _ _ => dPickF (.t .z) (decide_eq_false h119) (.c rfl)) rfl rfl ?_
                    refine mRd rfl rfl (fun _ _ _ => dMove (.t .z)) rfl rfl ?_
                    refine mPass rfl rfl rfl .z (nbT rfl) rfl ?_
                    refine mPass rfl rfl rfl .z (nbT rfl) rfl ?_
                    refine mRd rfl rfl (fun _ _ _ => dPickF (.t .z) rfl (.c rfl)) rfl rfl ?_
                    refine mRd rfl rfl (fun _ _ _ => dMove (.t .z)) rfl rfl ?_
                    refine mPass rfl rfl rfl .z (nbT rfl) rfl ?_
                    refine mPass rfl rfl rfl .z (nbT rfl) rfl ?_
                    refine mPass rfl rfl rfl .z (nbT rfl) rfl ?_
                    refine mPass rfl rfl rfl .z (nbT rfl) rfl ?_
                    refine mPass rfl rfl rfl .z (nbT rfl) rfl ?_
                    refine mRd rfl rfl (fun _ _ _ => dPickF (.t .z) rfl (.c rfl)) rfl rfl ?_
                    refine mRdK rfl rfl (fun _ _ _ => dAssign (.t .z)) (.k (.k (.k (.k (.k (.k (.k (.k (.k (.k (.k (.k (.k (.k (.k (.k (.k (.k (.k (.k (.k (.k (.d (Keep.refl _)))))))))))))))))))))))) rfl rfl ?_
                    refine mKeep (.k .n) ?_
                    refine mNil ?_
                    refine xCode ?_
                    refine cRet ?_
                    refine rLeave hD ?_
                    exact lvRet (rs := [.tmp 6]) rfl (.t .z .n) () rfl .nil
                · refine mPass rfl rfl rfl .z (nbT (Bool.eq_false_iff.mpr h118)) rfl ?_
                  refine mPass rfl rfl rfl .z (nbT (Bool.eq_false_iff.mpr h118)) rfl ?_
                  refine mPass rfl rfl rfl .z (nbT (Bool.eq_false_iff.mpr h118)) rfl ?_
                  refine mRd rfl rfl (fun _ _ _ => dPickF (.t .z) (Bool.eq_false_iff.mpr h118) (.c rfl)) rfl rfl ?_
                  refine mRd rfl rfl (fun _ _ _ => dMove (.t .z)) rfl rfl ?_
                  refine mPass rfl rfl rfl .z (nbT rfl) rfl ?_
                  refine mRd rfl rfl (fun _ _ _ => dPickF (.t .z) rfl (.c rfl)) rfl rfl ?_
                  refine mRd rfl rfl (fun _ _ _ => dMove (.t .z)) rfl rfl ?_
                  refine mPass rfl rfl rfl .z (nbT rfl) rfl ?_
                  refine mPass rfl rfl rfl .z (nbT rfl) rfl ?_
                  refine mRd rfl rfl (fun _ _ _ => dPickF (.t .z) rfl (.c rfl)) rfl rfl ?_
                  refine mRd rfl rfl (fun _ _ _ => dMove (.t .z)) rfl rfl ?_
                  refine mPass rfl rfl rfl .z (nbT rfl) rfl ?_
                  refine mPass rfl rfl rfl .z (nbT rfl) rfl ?_
                  refine mPass rfl rfl rfl .z (nbT rfl) rfl ?_
                  refine mPass rfl rfl rfl .z (nbT rfl) rfl ?_
                  refine mPass rfl rfl rfl .z (nbT rfl) rfl ?_
                  refine mRd rfl rfl (fun _ _ _ => dPickF (.t .z) rfl (.c rfl)) rfl rfl ?_
                  refine mRdK rfl rfl (fun _ _ _ => dAssign (.t .z)) (.k (.k (.k (.k (.k (.k (.k (.k (.k (.k (.k (.k (.k (.k (.k (.k (.k (.k (.k (.d (Keep.refl _))))))))))))))))))))) rfl rfl ?_
                  refine mKeep (.k .n) ?_
                  refine mNil ?_
                  refine xCode ?_
                  refine cRet ?_
                  refine rLeave hD ?_
                  exact lvRet (rs := [.tmp 6]) rfl (.t .z .n) () rfl .nil
              · refine mPass rfl rfl rfl .z (nbT (decide_eq_false h117)) rfl ?_
                refine mRd rfl rfl (fun _ _ _ => dPickF (.t .z) (decide_eq_false h117) (.c rfl)) rfl rfl ?_
                refine mRd rfl rfl (fun _ _ _ => dMove (.t .z)) rfl rfl ?_
                refine mPass rfl rfl rfl .z (nbT rfl) rfl ?_
                refine mPass rfl rfl rfl .z (nbT rfl) rfl ?_
                refine mPass rfl rfl rfl .z (nbT rfl) rfl ?_
                refine mRd rfl rfl (fun _ _ _ => dPickF (.t .z) rfl (.c rfl)) rfl rfl ?_
                refine mRd rfl rfl (fun _ _ _ => dMove (.t .z)) rfl rfl ?_
                refine mPass rfl rfl rfl .z (nbT rfl) rfl ?_
                refine mRd rfl rfl (fun _ _ _ => dPickF (.t .z) rfl (.c rfl)) rfl rfl ?_
                refine mRd rfl rfl (fun _ _ _ => dMove (.t .z)) rfl rfl ?_
                refine mPass rfl rfl rfl .z (nbT rfl) rfl ?_
                refine mPass rfl rfl rfl .z (nbT rfl) rfl ?_
                refine mRd rfl rfl (fun _ _ _ => dPickF (.t .z) rfl (.c rfl)) rfl rfl ?_
                refine mRd rfl rfl (fun _ _ _ => dMove (.t .z)) rfl rfl ?_
                refine mPass rfl rfl rfl .z (nbT rfl) rfl ?_
                refine mPass rfl rfl rfl .z (nbT rfl) rfl ?_
                refine mPass rfl rfl rfl .z (nbT rfl) rfl ?_
                refine mPass rfl rfl rfl .z (nbT rfl) rfl ?_
                refine mPass rfl rfl rfl .z (nbT rfl) rfl ?_
                refine mRd rfl rfl (fun _ _ _ => dPickF (.t .z) rfl (.c rfl)) rfl rfl ?_
                refine mRdK rfl rfl (fun _ _ _ => dAssign (.t .z)) (.k (.k (.k (.k (.k (.k (.k (.k (.k (.k (.k (.k (.k (.k (.k (.k (.k (.k (.d (Keep.refl _)))))))))))))))))))) rfl rfl ?_
                refine mKeep (.k .n) ?_
                refine mNil ?_
                refine xCode ?_
                refine cRet ?_
                refine rLeave hD ?_
                exact lvRet (rs := [.tmp 6]) rfl (.t .z .n) () rfl .nil
    · refine lRd (dMove (.t .z)) rfl rfl ?_
      refine lRd (dExtract (.t .z) rfl) rfl rfl ?_
      refine lRd (dExtract (.t (.s .z)) rfl) rfl rfl ?_
      refine lRd (dExtract (.t (.s (.s .z))) rfl) rfl rfl ?_
      refine lCh (cAlloc (cs := [.int .i64 0, .int .i64 0, .int .i64 0, .int .i64 0, .int .i64 0, .int .i64 0, .slice none 0 0, .int .i64 0, .bool false]) zer_31 rfl) rfl rfl fun b131 => ?_
      refine lRd (dAssign (.t (.s (.s (.s .z))))) rfl rfl ?_
      refine lFact (oneRo (.s .z)) fun h132 => ?_
      refine lChU (uStoreA (us := [.int .i64 o10.1.f_Plain.f_Rows, .int .i64 o10.1.f_Plain.f_Cols, .int .i64 o10.1.f_More.f_Rows, .int .i64 o10.1.f_More.f_Cols, .int .i64 o10.1.f_P.f_Size.f_Rows, .int .i64 o10.1.f_P.f_Size.f_Cols, x11.2, .int .i64 o10.1.f_P.f_Cursor, .bool o10.1.f_Other]) (cs' := [.int .i64 o10.1.f_Plain.f_Rows, .int .i64 o10.1.f_Plain.f_Cols, .int .i64 o10.1.f_More.f_Rows, .int .i64 o10.1.f_More.f_Cols, .int .i64 o10.1.f_P.f_Size.f_Rows, .int .i64 o10.1.f_P.f_Size.f_Cols, x11.2, .int .i64 o10.1.f_P.f_Cursor, .bool o10.1.f_Other]) .z siz_31 rfl (by intro u hu; simp only [List.mem_cons, List.not_mem_nil, or_false] at hu; rcases hu with rfl | rfl | rfl | rfl | rfl | rfl | rfl | rfl | rfl <;> first | rfl | assumption) rfl (by simp) (.t (.s .z)) (.t (.s (.s (.s .z))))) ?_
      refine lRd (dAssign (.t (.s (.s .z)))) rfl rfl ?_
      refine lKeep (.k (.k (.d (.d (.d (.d (.d (.d (.d (.d (.d (.k (.k (.k (.k .n))))))))))))))) ?_
      refine lNil ?_
      refine xCode ?_
      refine cSeq ?_
      refine cSeq ?_
      refine cJoin (S := Bool) (X := Unit) (fun (s : Bool) (x : Unit) => [(33, .bool s), (7, .pointer none), (6, .bool false), (4, .pointer (some ⟨b2, 0, none⟩)), (3, .pointer (some ⟨b1, 0, none⟩)), (2, v2_0)]) (fun (s : Bool) (x : Unit) => [.blk b131 [.int .i64 o10.1.f_Plain.f_Rows, .int .i64 o10.1.f_Plain.f_Cols, .int .i64 o10.1.f_More.f_Rows, .int .i64 o10.1.f_More.f_Cols, .int .i64 o10.1.f_P.f_Size.f_Rows, .int .i64 o10.1.f_P.f_Size.f_Cols, x11.2, .int .i64 o10.1.f_P.f_Cursor, .bool o10.1.f_Other] 31, .ro (kSl k_api_Cell) [x11.2] o10.1.f_P.f_Cells, .blk b2 [.int .i64 a1.f_Rows, .int .i64 a1.f_Cols] 23, .blk b1 [.int .i64 a0.f_Rows, .int .i64 a0.f_Cols] 23, .ro (kSl (kSl kB)) [v2_0] a2]) ?_ (fun s134 x135 => ?_)
      · refine cRegion ?_
        refine lRd (dMove (.t .z)) rfl rfl ?_
        refine lRd (dNot (.t .z)) rfl rfl ?_
        refine lRd (dMove (.t .z)) rfl rfl ?_
        refine lCase (fun h133 => ?_) (fun h133 => ?_)
        · refine lPass rfl .z (nbF h133) rfl ?_
          refine lPass rfl .z (nbF h133) rfl ?_
          refine lPass rfl .z (nbF h133) rfl ?_
          refine lRd (dPickT (.t .z) h133 (.c rfl)) rfl rfl ?_
          refine lKeep (.k (.d (.d (.d (.d (.k (.k (.k (.k (.k .n)))))))))) ?_
          refine lNil ?_
          exact xJoin true () (.c .z (.c (.s .z) (.c (.s (.s .z)) (.c (.s (.s (.s .z))) (.c (.s (.s (.s (.s .z)))) (.c (.s (.s (.s (.s (.s .z))))) .n)))))) (.c .z (.c .z (.c .z (.c .z (.c .z .nil)))))
        · refine lRdG rfl .z (Bool.eq_false_iff.mpr h133) (dMove (.t (.s (.s (.s (.s (.s (.s (.s (.s .z)))))))))) rfl rfl ?_
          refine lRdG rfl (.s .z) (Bool.eq_false_iff.mpr h133) (dLen (at_ := #[24]) (slRo (.s (.s (.s (.s .z))))) rfl und_24 (.t .z)) rfl rfl ?_
          refine lRdG rfl (.s (.s .z)) (Bool.eq_false_iff.mpr h133) (dGt (.t .z) (.c rfl)) rfl rfl ?_
          refine lRd (dPickF (.t (.s (.s (.s .z)))) (Bool.eq_false_iff.mpr h133) (.t .z)) rfl rfl ?_
          refine lKeep (.k (.d (.d (.d (.d (.d (.d (.d (.k (.k (.k (.k (.k .n))))))))))))) ?_
          refine lNil ?_
          exact xJoin (decide ((a2.length : Int) > 8)) () (.c .z (.c (.s .z) (.c (.s (.s .z)) (.c (.s (.s (.s .z))) (.c (.s (.s (.s (.s .z)))) (.c (.s (.s (.s (.s (.s .z))))) .n)))))) (.c .z (.c .z (.c .z (.c .z (.c .z .nil)))))
      · refine xCode ?_
        refine cCondB (.t .z) (fun h136 => ?_) (fun h136 => ?_)
        · refine cSeq ?_
          refine cRegion ?_
          refine lRdK (dAssign (.c rfl)) (.k (.k (.d (Keep.refl _)))) rfl rfl ?_
          refine lKeep (.k (.d (.k (.k (.k (.k .n)))))) ?_
          refine lNil ?_
          refine xCode ?_
          refine cRet ?_
          refine rLeave hD ?_
          exact lvRet (rs := [.tmp 6]) rfl (.t .z .n) () rfl .nil
        · refine cSkip ?_
          refine xCode ?_
          refine cSeq ?_
          refine cSeq ?_
          refine cRegion ?_
          refine lRd (dMove (.t (.s (.s (.s (.s (.s .z))))))) rfl rfl ?_
          refine lRd (dLen (at_ := #[24]) (slRo (.s (.s (.s (.s .z))))) rfl und_24 (.t .z)) rfl rfl ?_
          refine lRd (dMove (.c rfl)) rfl rfl ?_
          refine lKeep (.k (.k (.k (.d (.k (.k (.k (.k .n)))))))) ?_
          refine lNil ?_
          refine xCode ?_
          refine cLoopR (S := Unit) (X := Unit) (S' := Unit) (X' := Unit) (law18_ScreenSizes_l3 K a2) (fun (s : Unit) (x : Unit) => [(36, .int .i64 0), (35, .int .i64 (a2.length : Int)), (34, v2_0), (7, .pointer none), (6, .bool false), (4, .pointer (some ⟨b2, 0, none⟩)), (3, .pointer (some ⟨b1, 0, none⟩))]) (fun (s : Unit) (x : Unit) => [.blk b131 [.int .i64 o10.1.f_Plain.f_Rows, .int .i64 o10.1.f_Plain.f_Cols, .int .i64 o10.1.f_More.f_Rows, .int .i64 o10.1.f_More.f_Cols, .int .i64 o10.1.f_P.f_Size.f_Rows, .int .i64 o10.1.f_P.f_Size.f_Cols, x11.2, .int .i64 o10.1.f_P.f_Cursor, .bool o10.1.f_Other] 31, .ro (kSl k_api_Cell) [x11.2] o10.1.f_P.f_Cells, .blk b2 [.int .i64 a1.f_Rows, .int .i64 a1.f_Cols] 23, .blk b1 [.int .i64 a0.f_Rows, .int .i64 a0.f_Cols] 23, .ro (kSl (kSl kB)) [v2_0] a2]) (fun (s : Unit) (x : Unit) => [(7, .pointer none), (6, .bool false), (4, .pointer (some ⟨b2, 0, none⟩))]) (fun (s : Unit) (x : Unit) => [.blk b131 [.int .i64 o10.1.f_Plain.f_Rows, .int .i64 o10.1.f_Plain.f_Cols, .int .i64 o10.1.f_More.f_Rows, .int .i64 o10.1.f_More.f_Cols, .int .i64 o10.1.f_P.f_Size.f_Rows, .int .i64 o10.1.f_P.f_Size.f_Cols, x11.2, .int .i64 o10.1.f_P.f_Cursor, .bool o10.1.f_Other] 31, .ro (kSl k_api_Cell) [x11.2] o10.1.f_P.f_Cells, .blk b2 [.int .i64 a1.f_Rows, .int .i64 a1.f_Cols] 23, .blk b1 [.int .i64 a0.f_Rows, .int .i64 a0.f_Cols] 23, .ro (kSl (kSl kB)) [v2_0] a2]) K () () (.c .z (.c (.s .z) (.c (.s (.s .z)) (.c (.s (.s (.s .z))) (.c (.s (.s (.s (.s .z)))) (.c (.s (.s (.s (.s (.s .z))))) (.c (.s (.s (.s (.s (.s (.s .z)))))) .n))))))) (.c .z (.c .z (.c .z (.c .z (.c .z .nil))))) (fun _ => rfl) (fun n139 I140 h141 s137 x138 => ?_) (fun s148 x149 => ?_)
          · rw [law18_ScreenSizes_l3]
            refine cSeq ?_
            refine cRegion ?_
            refine lRd (dLt (.t .z) (.t (.s .z))) rfl rfl ?_
            refine lNil ?_
            refine xCode ?_
            refine cSeq ?_
            refine cCond (.t .z) (fun h142 => ?_) (fun h142 => ?_)
            · refine cSkip ?_
              refine xCode ?_
              refine cSeq ?_
              refine cBlock ?_
              refine cSeq ?_
              refine cRegion ?_
              refine lIx fun y143 h144 h145 => ?_
              refine lRd (dIxAddr (slRo (.s (.s (.s (.s .z))))) und_24 siz_34 (.t (.s (.s (.s .z)))) (.t (.s .z)) h144 h145) rfl rfl ?_
              refine lCh (cLoadRoS (k := kB) (.s (.s (.s (.s .z)))) agg_34 (.t .z) h145) rfl rfl fun v146 => ?_
              refine lRd (dAssign (.t .z)) rfl rfl ?_
              refine lNil ?_
              refine xCode ?_
              refine cSeq ?_
              refine cSeq ?_
              refine cRegion ?_
              refine lRd (dMove (.t .z)) rfl rfl ?_
              refine lRd (dLen (at_ := #[34]) (slRo .z) rfl und_34 (.t .z)) rfl rfl ?_
              refine lRd (dGt (.t .z) (.c rfl)) rfl rfl ?_
              refine lNil ?_
              refine xCode ?_
              refine cCond (.t .z) (fun h147 => ?_) (fun h147 => ?_)
              · refine cSeq ?_
                refine cRegion ?_
                refine lRdK (dAssign (.c rfl)) (.k (.k (.k (.k (.k (.k (.k (.k (.k (.k (.k (.d (Keep.refl _))))))))))))) rfl rfl ?_
                refine lNil ?_
                refine xCode ?_
                refine cRet ?_
                refine rInner ?_
                refine rLeave hD ?_
                exact lvRet (rs := [.tmp 6]) rfl (.t .z .n) () rfl .nil
              · refine cSkip ?_
                refine xCode ?_
                refine cSeq ?_
                refine cRegion ?_
                refine lRd (dMove (.t (.s (.s (.s (.s (.s (.s (.s (.s (.s (.s .z)))))))))))) rfl rfl ?_
                refine lRd (dMove (.t (.s (.s (.s (.s .z)))))) rfl rfl ?_
                exact lStuck
            · refine cExit ?_
              refine xOver ?_
              refine xOverF ?_
              exact xBreakR () () (.c (.s (.s (.s (.s .z)))) (.c (.s (.s (.s (.s (.s .z))))) (.c (.s (.s (.s (.s (.s (.s .z)))))) .n))) (.c .z (.c .z (.c .z (.c .z (.c .z .nil)))))
          · refine xCode ?_
            refine cSeq ?_
            refine cRegion ?_
            refine lRd (dMove (.t .z)) rfl rfl ?_
            refine lCh (cBuildSlice (te := 5) (k := kB) (css := [[vB (241 : UInt8)], [vB (1 : UInt8)]]) (xs := ([(241 : UInt8), (1 : UInt8)] : List UInt8)) und_34 siz_5 zer_5 rfl (by decide) rfl (.c (.c (v' := vB 241) rfl) (.c (.c (v' := vB 1) rfl) .n)) rfl (fun zs h => match zs, h with | [_, _], _ => rfl) rfl (fun _ _ _ => (.cons rfl (.cons rfl .nil)))) rfl rfl fun b150 => ?_
            exact lStuck

-- slices.Equal[[]greenscreen/api.Cell,greenscreen/api.Cell]
def slices_Equal_api_Cell_api_Cell_l1 (K : Nat) (a0 : (List api_Cell)) (a1 : (List api_Cell)) : Nat → (Int) → Option (Sum (Unit) (Bool))
  | 0, _ => none
  | n + 1, s2 => (if s2 < (a0.length : Int) then (ix a0 s2).bind fun y8 => (ix a1 s2).bind fun y11 => (if (!decide (y8 = y11)) = true then some (Sum.inr false) else (slices_Equal_api_Cell_api_Cell_l1 K a0 a1 n) (w64 (s2 + 1))) else some (Sum.inl ()))
def slices_Equal_api_Cell_api_Cell_m (K : Nat) (a0 : (List api_Cell)) (a1 : (List api_Cell)) : Option (Bool) := (if (a0.length : Int) ≠ (a1.length : Int) then some false else (slices_Equal_api_Cell_api_Cell_l1 K a0 a1 K 0).bind (onS fun (s15 : Unit) => some true))
theorem slices_Equal_api_Cell_api_Cell_c (K : Nat) (a0 : (List api_Cell)) (a1 : (List api_Cell)) (v0_0 : Value) (v1_0 : Value) : Con Try.prog 23 #[v0_0, v1_0] [.ro (kSl k_api_Cell) [v0_0] a0, .ro (kSl k_api_Cell) [v1_0] a1] (slices_Equal_api_Cell_api_Cell_m K a0 a1) (fun (o : Bool) (x : Unit) => .bool o) (fun (o : Bool) (x : Unit) => []) := by
  unfold slices_Equal_api_Cell_api_Cell_m
  refine con (args := [v0_0, v1_0]) Try.func23 rfl 26 rfl (.c (.c .n)) rfl fun c hD hrn => ?_
  refine cSeq ?_
  refine cRegion ?_
  refine lRd (dAssign (.c rfl)) rfl rfl ?_
  refine lNil ?_
  refine xCode ?_
  refine cSeq ?_
  refine cSeq ?_
  refine cRegion ?_
  refine lRd (dMove (.t (.s .z))) rfl rfl ?_
  refine lRd (dLen (at_ := #[27]) (slRo .z) rfl und_27 (.t .z)) rfl rfl ?_
  refine lRd (dMove (.t (.s (.s (.s (.s .z)))))) rfl rfl ?_
  refine lRd (dLen (at_ := #[27]) (slRo (.s .z)) rfl und_27 (.t .z)) rfl rfl ?_
  refine lRd (dNe (.t (.s (.s .z))) (.t .z)) rfl rfl ?_
  refine lKeep (.k (.d (.d (.d (.d (.k (.k (.k .n)))))))) ?_
  refine lNil ?_
  refine xCode ?_
  refine cCond (.t .z) (fun h1 => ?_) (fun h1 => ?_)
  · refine cSeq ?_
    refine cRegion ?_
    refine lRdK (dAssign (.c rfl)) (.k (.d (Keep.refl _))) rfl rfl ?_
    refine lKeep (.k (.d (.k (.k .n)))) ?_
    refine lNil ?_
    refine xCode ?_
    refine cRet ?_
    refine rLeave hD ?_
    exact lvRet (rs := [.tmp 4]) rfl (.t .z .n) () rfl .nil
  · refine cSkip ?_
    refine xCode ?_
    refine cSeq ?_
    refine cSeq ?_
    refine cRegion ?_
    refine lRd (dMove (.t (.s (.s .z)))) rfl rfl ?_
    refine lRd (dLen (at_ := #[27]) (slRo .z) rfl und_27 (.t .z)) rfl rfl ?_
    refine lRd (dMove (.c rfl)) rfl rfl ?_
    refine lKeep (.k (.k (.d (.d (.k (.k (.k .n))))))) ?_
    refine lNil ?_
    refine xCode ?_
    refine cLoopR (S := Int) (X := Unit) (S' := Unit) (X' := Unit) (slices_Equal_api_Cell_api_Cell_l1 K a0 a1) (fun (s : Int) (x : Unit) => [(13, .int .i64 s), (12, .int .i64 (a0.length : Int)), (4, .bool false), (0, v0_0), (1, v1_0)]) (fun (s : Int) (x : Unit) => [.ro (kSl k_api_Cell) [v0_0] a0, .ro (kSl k_api_Cell) [v1_0] a1]) (fun (s : Unit) (x : Unit) => [(4, .bool false)]) (fun (s : Unit) (x : Unit) => [.ro (kSl k_api_Cell) [v0_0] a0, .ro (kSl k_api_Cell) [v1_0] a1]) K 0 () (.c .z (.c (.s .z) (.c (.s (.s .z)) (.c (.s (.s (.s .z))) (.c (.s (.s (.s (.s .z)))) .n))))) (.c .z (.c .z .nil)) (fun _ => rfl) (fun n4 I5 h6 s2 x3 => ?_) (fun s15 x16 => ?_)
    · rw [slices_Equal_api_Cell_api_Cell_l1]
      refine cSeq ?_
      refine cRegion ?_
      refine lRd (dLt (.t .z) (.t (.s .z))) rfl rfl ?_
      refine lNil ?_
      refine xCode ?_
      refine cSeq ?_
      refine cCond (.t .z) (fun h7 => ?_) (fun h7 => ?_)
      · refine cSkip ?_
        refine xCode ?_
        refine cSeq ?_
        refine cBlock ?_
        refine cSeq ?_
        refine cRegion ?_
        refine lRd (dMove (.t (.s .z))) rfl rfl ?_
        refine lRd (dAssign (.t .z)) rfl rfl ?_
        refine lNil ?_
        refine xCode ?_
        refine cSeq ?_
        refine cRegionM [] [(0, .early), (1, .early), (2, .early), (3, .early), (4, .early), (5, .early), (6, .early), (7, .early), (8, .early)] mixed (by kernel_rfl) (.c .z (.c .z .nil)) (.c (.c .n)) ?_
        refine mRd rfl rfl (fun _ _ _ => dMove (.t (.s (.s (.s (.s (.s (.s .z)))))))) rfl rfl ?_
        refine mRd rfl rfl (fun _ _ _ => dMove (.t (.s .z))) rfl rfl ?_
        refine mIx fun y8 h9 h10 => ?_
        refine mRd rfl rfl (fun _ _ _ => dIxAddr (slRo .z) und_27 siz_44 (.t (.s .z)) (.t .z) h9 h10) rfl rfl ?_
        refine mRd rfl rfl (fun _ _ _ => dLoadEA (us := [vB y8.f_Byte, .bool y8.f_GE, .bool y8.f_Start, vB y8.f_Light, vB y8.f_Color]) (slRo .z) agg_44 siz_44 rfl (.t .z) h10 (fun _ _ h => by cases h; rfl)) rfl rfl ?_
        refine mRd rfl rfl (fun _ _ _ => dMove (.t (.s (.s (.s (.s (.s (.s (.s (.s (.s (.s (.s .z))))))))))))) rfl rfl ?_
        refine mRd rfl rfl (fun _ _ _ => dMove (.t (.s (.s (.s (.s (.s .z))))))) rfl rfl ?_
        refine mIx fun y11 h12 h13 => ?_
        refine mRd rfl rfl (fun _ _ _ => dIxAddr (slRo (.s .z)) und_27 siz_44 (.t (.s .z)) (.t .z) h12 h13) rfl rfl ?_
        refine mRd rfl rfl (fun _ _ _ => dLoadEA (us := [vB y11.f_Byte, .bool y11.f_GE, .bool y11.f_Start, vB y11.f_Light, vB y11.f_Color]) (slRo (.s .z)) agg_44 siz_44 rfl (.t .z) h13 (fun _ _ h => by cases h; rfl)) rfl rfl ?_
        refine mRd rfl rfl (fun _ _ _ => dNeA eqg_44 (eqa_44 y8 y11) (.t (.s (.s (.s (.s .z))))) (.t .z)) rfl rfl ?_
        refine mNil ?_
        refine xCode ?_
        refine cCondB (.t .z) (fun h14 => ?_) (fun h14 => ?_)
        · refine cSeq ?_
          refine cRegion ?_
          refine lRdK (dAssign (.c rfl)) (.k (.k (.k (.k (.k (.k (.k (.k (.k (.k (.k (.k (.k (.k (.d (Keep.refl _)))))))))))))))) rfl rfl ?_
          refine lNil ?_
          refine xCode ?_
          refine cRet ?_
          refine rInner ?_
          refine rLeave hD ?_
          exact lvRet (rs := [.tmp 4]) rfl (.t .z .n) () rfl .nil
        · refine cSkip ?_
          refine xBlock ?_
          refine xCode ?_
          refine cRegion ?_
          refine lRd (dAddI (.t (.s (.s (.s (.s (.s (.s (.s (.s (.s (.s (.s (.s .z))))))))))))) (.c rfl)) rfl rfl ?_
          refine lRdK (dMove (.t .z)) (.k (.k (.k (.k (.k (.k (.k (.k (.k (.k (.k (.k (.k (.d (Keep.refl _))))))))))))))) rfl rfl ?_
          refine lNil ?_
          exact xRound h6 (w64 (s2 + 1)) () (.c .z (.c (.s (.s (.s (.s (.s (.s (.s (.s (.s (.s (.s (.s (.s (.s .z)))))))))))))) (.c (.s (.s (.s (.s (.s (.s (.s (.s (.s (.s (.s (.s (.s (.s (.s .z))))))))))))))) (.c (.s (.s (.s (.s (.s (.s (.s (.s (.s (.s (.s (.s (.s (.s (.s (.s .z)))))))))))))))) (.c (.s (.s (.s (.s (.s (.s (.s (.s (.s (.s (.s (.s (.s (.s (.s (.s (.s .z))))))))))))))))) .n))))) (.c .z (.c .z .nil))
      · refine cExit ?_
        refine xOver ?_
        refine xOverF ?_
        exact xBreakR () () (.c (.s (.s (.s .z))) .n) (.c .z (.c .z .nil))
    · refine xCode ?_
      refine cSeq ?_
      refine cRegion ?_
      refine lRdK (dAssign (.c rfl)) (.d (Keep.refl _)) rfl rfl ?_
      refine lNil ?_
      refine xCode ?_
      refine cRet ?_
      refine rLeave hD ?_
      exact lvRet (rs := [.tmp 4]) rfl (.t .z .n) () rfl .nil

-- slices.Equal[[]greenscreen/api.Cell,greenscreen/api.Cell]
def slices_Equal_api_Cell_api_Cell_v0_l1 (K : Nat) (a0 : (List api_Cell)) (a1 : (List api_Cell)) : Nat → (Int) → Option (Sum (Unit) (Bool))
  | 0, _ => none
  | n + 1, s2 => (if s2 < (a0.length : Int) then (ix a0 s2).bind fun y8 => (ix a1 s2).bind fun y11 => (if (!decide (y8 = y11)) = true then some (Sum.inr false) else (slices_Equal_api_Cell_api_Cell_v0_l1 K a0 a1 n) (w64 (s2 + 1))) else some (Sum.inl ()))
def slices_Equal_api_Cell_api_Cell_v0_m (K : Nat) (a0 : (List api_Cell)) (a1 : (List api_Cell)) : Option (Bool) := (if (a0.length : Int) ≠ (a1.length : Int) then some false else (slices_Equal_api_Cell_api_Cell_v0_l1 K a0 a1 K 0).bind (onS fun (s15 : Unit) => some true))
theorem slices_Equal_api_Cell_api_Cell_v0_c (K : Nat) (a0 : (List api_Cell)) (a1 : (List api_Cell)) (v0_0 : Value) (v1_0 : Value) : Con Try.prog 23 #[v0_0, v1_0] [.own v0_0 44 k_api_Cell a0, .own v1_0 44 k_api_Cell a1] (slices_Equal_api_Cell_api_Cell_v0_m K a0 a1) (fun (o : Bool) (x : Unit) => .bool o) (fun (o : Bool) (x : Unit) => [.own v0_0 44 k_api_Cell a0, .own v1_0 44 k_api_Cell a1]) := by
  unfold slices_Equal_api_Cell_api_Cell_v0_m
  refine con (args := [v0_0, v1_0]) Try.func23 rfl 26 rfl (.c (.c .n)) rfl fun c hD hrn => ?_
  refine cSeq ?_
  refine cRegion ?_
  refine lRd (dAssign (.c rfl)) rfl rfl ?_
  refine lNil ?_
  refine xCode ?_
  refine cSeq ?_
  refine cSeq ?_
  refine cRegion ?_
  refine lRd (dMove (.t (.s .z))) rfl rfl ?_
  refine lRd (dLen (at_ := #[27]) (slOwn .z) rfl und_27 (.t .z)) rfl rfl ?_
  refine lRd (dMove (.t (.s (.s (.s (.s .z)))))) rfl rfl ?_
  refine lRd (dLen (at_ := #[27]) (slOwn (.s .z)) rfl und_27 (.t .z)) rfl rfl ?_
  refine lRd (dNe (.t (.s (.s .z))) (.t .z)) rfl rfl ?_
  refine lKeep (.k (.d (.d (.d (.d (.k (.k (.k .n)))))))) ?_
  refine lNil ?_
  refine xCode ?_
  refine cCond (.t .z) (fun h1 => ?_) (fun h1 => ?_)
  · refine cSeq ?_
    refine cRegion ?_
    refine lRdK (dAssign (.c rfl)) (.k (.d (Keep.refl _))) rfl rfl ?_
    refine lKeep (.k (.d (.k (.k .n)))) ?_
    refine lNil ?_
    refine xCode ?_
    refine cRet ?_
    refine rLeave hD ?_
    exact lvRet (rs := [.tmp 4]) rfl (.t .z .n) () rfl (.c .z (.c .z .nil))
  · refine cSkip ?_
    refine xCode ?_
    refine cSeq ?_
    refine cSeq ?_
    refine cRegion ?_
    refine lRd (dMove (.t (.s (.s .z)))) rfl rfl ?_
    refine lRd (dLen (at_ := #[27]) (slOwn .z) rfl und_27 (.t .z)) rfl rfl ?_
    refine lRd (dMove (.c rfl)) rfl rfl ?_
    refine lKeep (.k (.k (.d (.d (.k (.k (.k .n))))))) ?_
    refine lNil ?_
    refine xCode ?_
    refine cLoopR (S := Int) (X := Unit) (S' := Unit) (X' := Unit) (slices_Equal_api_Cell_api_Cell_v0_l1 K a0 a1) (fun (s : Int) (x : Unit) => [(13, .int .i64 s), (12, .int .i64 (a0.length : Int)), (4, .bool false), (0, v0_0), (1, v1_0)]) (fun (s : Int) (x : Unit) => [.own v0_0 44 k_api_Cell a0, .own v1_0 44 k_api_Cell a1]) (fun (s : Unit) (x : Unit) => [(4, .bool false)]) (fun (s : Unit) (x : Unit) => [.own v0_0 44 k_api_Cell a0, .own v1_0 44 k_api_Cell a1]) K 0 () (.c .z (.c (.s .z) (.c (.s (.s .z)) (.c (.s (.s (.s .z))) (.c (.s (.s (.s (.s .z)))) .n))))) (.c .z (.c .z .nil)) (fun _ => rfl) (fun n4 I5 h6 s2 x3 => ?_) (fun s15 x16 => ?_)
    · rw [slices_Equal_api_Cell_api_Cell_v0_l1]
      refine cSeq ?_
      refine cRegion ?_
      refine lRd (dLt (.t .z) (.t (.s .z))) rfl rfl ?_
      refine lNil ?_
      refine xCode ?_
      refine cSeq ?_
      refine cCond (.t .z) (fun h7 => ?_) (fun h7 => ?_)
      · refine cSkip ?_
        refine xCode ?_
        refine cSeq ?_
        refine cBlock ?_
        refine cSeq ?_
        refine cRegion ?_
        refine lRd (dMove (.t (.s .z))) rfl rfl ?_
        refine lRd (dAssign (.t .z)) rfl rfl ?_
        refine lNil ?_
        refine xCode ?_
        refine cSeq ?_
        refine cRegionM [] [(0, .early), (1, .early), (2, .early), (3, .early), (4, .early), (5, .early), (6, .early), (7, .early), (8, .early)] mixed (by kernel_rfl) (.c .z (.c .z .nil)) (.c (.c .n)) ?_
        refine mRd rfl rfl (fun _ _ _ => dMove (.t (.s (.s (.s (.s (.s (.s .z)))))))) rfl rfl ?_
        refine mRd rfl rfl (fun _ _ _ => dMove (.t (.s .z))) rfl rfl ?_
        refine mIx fun y8 h9 h10 => ?_
        refine mRd rfl rfl (fun _ _ _ => dIxAddr (slOwn .z) und_27 siz_44 (.t (.s .z)) (.t .z) h9 h10) rfl rfl ?_
        refine mRd rfl rfl (fun _ _ _ => dLoadEA (us := [vB y8.f_Byte, .bool y8.f_GE, .bool y8.f_Start, vB y8.f_Light, vB y8.f_Color]) (slOwn .z) agg_44 siz_44 rfl (.t .z) h10 (fun _ _ h => by cases h; rfl)) rfl rfl ?_
        refine mRd rfl rfl (fun _ _ _ => dMove (.t (.s (.s (.s (.s (.s (.s (.s (.s (.s (.s (.s .z))))))))))))) rfl rfl ?_
        refine mRd rfl rfl (fun _ _ _ => dMove (.t (.s (.s (.s (.s (.s .z))))))) rfl rfl ?_
        refine mIx fun y11 h12 h13 => ?_
        refine mRd rfl rfl (fun _ _ _ => dIxAddr (slOwn (.s .z)) und_27 siz_44 (.t (.s .z)) (.t .z) h12 h13) rfl rfl ?_
        refine mRd rfl rfl (fun _ _ _ => dLoadEA (us := [vB y11.f_Byte, .bool y11.f_GE, .bool y11.f_Start, vB y11.f_Light, vB y11.f_Color]) (slOwn (.s .z)) agg_44 siz_44 rfl (.t .z) h13 (fun _ _ h => by cases h; rfl)) rfl rfl ?_
        refine mRd rfl rfl (fun _ _ _ => dNeA eqg_44 (eqa_44 y8 y11) (.t (.s (.s (.s (.s .z))))) (.t .z)) rfl rfl ?_
        refine mNil ?_
        refine xCode ?_
        refine cCondB (.t .z) (fun h14 => ?_) (fun h14 => ?_)
        · refine cSeq ?_
          refine cRegion ?_
          refine lRdK (dAssign (.c rfl)) (.k (.k (.k (.k (.k (.k (.k (.k (.k (.k (.k (.k (.k (.k (.d (Keep.refl _)))))))))))))))) rfl rfl ?_
          refine lNil ?_
          refine xCode ?_
          refine cRet ?_
          refine rInner ?_
          refine rLeave hD ?_
          exact lvRet (rs := [.tmp 4]) rfl (.t .z .n) () rfl (.c .z (.c .z .nil))
        · refine cSkip ?_
          refine xBlock ?_
          refine xCode ?_
          refine cRegion ?_
          refine lRd (dAddI (.t (.s (.s (.s (.s (.s (.s (.s (.s (.s (.s (.s (.s .z))))))))))))) (.c rfl)) rfl rfl ?_
          refine lRdK (dMove (.t .z)) (.k (.k (.k (.k (.k (.k (.k (.k (.k (.k (.k (.k (.k (.d (Keep.refl _))))))))))))))) rfl rfl ?_
          refine lNil ?_
          exact xRound h6 (w64 (s2 + 1)) () (.c .z (.c (.s (.s (.s (.s (.s (.s (.s (.s (.s (.s (.s (.s (.s (.s .z)))))))))))))) (.c (.s (.s (.s (.s (.s (.s (.s (.s (.s (.s (.s (.s (.s (.s (.s .z))))))))))))))) (.c (.s (.s (.s (.s (.s (.s (.s (.s (.s (.s (.s (.s (.s (.s (.s (.s .z)))))))))))))))) (.c (.s (.s (.s (.s (.s (.s (.s (.s (.s (.s (.s (.s (.s (.s (.s (.s (.s .z))))))))))))))))) .n))))) (.c .z (.c .z .nil))
      · refine cExit ?_
        refine xOver ?_
        refine xOverF ?_
        exact xBreakR () () (.c (.s (.s (.s .z))) .n) (.c .z (.c .z .nil))
    · refine xCode ?_
      refine cSeq ?_
      refine cRegion ?_
      refine lRdK (dAssign (.c rfl)) (.d (Keep.refl _)) rfl rfl ?_
      refine lNil ?_
      refine xCode ?_
      refine cRet ?_
      refine rLeave hD ?_
      exact lvRet (rs := [.tmp 4]) rfl (.t .z .n) () rfl (.c .z (.c .z .nil))

-- greenscreen/plane.Same
def plane_Same_m (K : Nat) (a0 : plane_Plane) (a1 : plane_Plane) : Option (Bool) := (if a0.f_size = a1.f_size then (if a0.f_cursor = a1.f_cursor then (slices_Equal_api_Cell_api_Cell_v0_m K a0.f_cells a1.f_cells).bind fun o3 => some o3 else some false) else some false)
theorem plane_Same_c (K : Nat) (a0 : plane_Plane) (a1 : plane_Plane) (b0_0 : Nat) (v0_1 : Value) (b1_0 : Nat) (v1_1 : Value) : Con Try.prog 15 #[.pointer (some ⟨b0_0, 0, none⟩), .pointer (some ⟨b1_0, 0, none⟩)] [.blk b0_0 [.int .i64 a0.f_size.f_Rows, .int .i64 a0.f_size.f_Cols, v0_1, .int .i64 a0.f_cursor] 66, .own v0_1 44 k_api_Cell a0.f_cells, .blk b1_0 [.int .i64 a1.f_size.f_Rows, .int .i64 a1.f_size.f_Cols, v1_1, .int .i64 a1.f_cursor] 66, .own v1_1 44 k_api_Cell a1.f_cells] (plane_Same_m K a0 a1) (fun (o : Bool) (x : Unit) => .bool o) (fun (o : Bool) (x : Unit) => [.blk b0_0 [.int .i64 a0.f_size.f_Rows, .int .i64 a0.f_size.f_Cols, v0_1, .int .i64 a0.f_cursor] 66, .own v0_1 44 k_api_Cell a0.f_cells, .blk b1_0 [.int .i64 a1.f_size.f_Rows, .int .i64 a1.f_size.f_Cols, v1_1, .int .i64 a1.f_cursor] 66, .own v1_1 44 k_api_Cell a1.f_cells]) := by
  unfold plane_Same_m
  refine con (args := [.pointer (some ⟨b0_0, 0, none⟩), .pointer (some ⟨b1_0, 0, none⟩)]) Try.func15 rfl 36 rfl (.c (.c .n)) rfl fun c hD hrn => ?_
  refine cSeq ?_
  refine cRegion ?_
  refine lRd (dAssign (.c rfl)) rfl rfl ?_
  refine lNil ?_
  refine xCode ?_
  refine cSeq ?_
  refine cRegionM [] [(0, .early), (1, .early), (2, .early), (3, .early), (4, .early), (5, .early), (6, .early), (7, .early), (8, .early), (9, .early), (10, .early), (11, .early), (12, .early), (13, .early), (14, .early), (15, .early), (16, .early), (17, .early), (18, .early), (19, .early), (20, .early), (21, .early), (22, .early), (23, .early), (24, .early), (25, .early), (26, .early), (27, .early), (28, .early), (29, .early), (30, .early), (31, .early)] mixed (by kernel_rfl) (.c .z (.c .z (.c .z (.c .z .nil)))) (.c (.c (.c (.c .n)))) ?_
  refine mRd rfl rfl (fun _ _ _ => dMove (.t (.s .z))) rfl rfl ?_
  refine mRd rfl rfl (fun _ _ _ => dNil (.t .z)) rfl rfl ?_
  refine mRd rfl rfl (fun _ _ _ => dFld fld_66_0 (by decide) (.t .z) rfl) rfl rfl ?_
  refine mRd rfl rfl (fun _ _ _ => dLoadA (us := [.int .i64 a0.f_size.f_Rows, .int .i64 a0.f_size.f_Cols]) .z agg_23 siz_23 rfl (.t .z) rfl) rfl rfl ?_
  refine mRd rfl rfl (fun _ _ _ => dMove (.t (.s (.s (.s (.s (.s (.s .z)))))))) rfl rfl ?_
  refine mRd rfl rfl (fun _ _ _ => dNil (.t .z)) rfl rfl ?_
  refine mRd rfl rfl (fun _ _ _ => dFld fld_66_0 (by decide) (.t .z) rfl) rfl rfl ?_
  refine mRd rfl rfl (fun _ _ _ => dLoadA (us := [.int .i64 a1.f_size.f_Rows, .int .i64 a1.f_size.f_Cols]) (.s (.s .z)) agg_23 siz_23 rfl (.t .z) rfl) rfl rfl ?_
  refine mRd rfl rfl (fun _ _ _ => dEqA eqg_23 (eqa_23 a0.f_size a1.f_size) (.t (.s (.s (.s (.s .z))))) (.t .z)) rfl rfl ?_
  refine mRd rfl rfl (fun _ _ _ => dMove (.t .z)) rfl rfl ?_
  refine mCase (fun h1 => ?_) (fun h1 => ?_)
  · refine mRdG rfl rfl rfl .z (decide_eq_true h1) (fun _ _ _ => dMove (.t (.s (.s (.s (.s (.s (.s (.s (.s (.s (.s (.s .z))))))))))))) rfl rfl ?_
    refine mRdG rfl rfl rfl (.s .z) (decide_eq_true h1) (fun _ _ _ => dNil (.t .z)) rfl rfl ?_
    refine mRdG rfl rfl rfl (.s (.s .z)) (decide_eq_true h1) (fun _ _ _ => dFld fld_66_2 (by decide) (.t .z) rfl) rfl rfl ?_
    refine mRdG rfl rfl rfl (.s (.s (.s .z))) (decide_eq_true h1) (fun _ _ _ => dLoad .z agg_3 (.t .z) rfl) rfl rfl ?_
    refine mRdG rfl rfl rfl (.s (.s (.s (.s .z)))) (decide_eq_true h1) (fun _ _ _ => dMove (.t (.s (.s (.s (.s (.s (.s (.s (.s (.s (.s (.s (.s (.s (.s (.s (.s .z)))))))))))))))))) rfl rfl ?_
    refine mRdG rfl rfl rfl (.s (.s (.s (.s (.s .z))))) (decide_eq_true h1) (fun _ _ _ => dNil (.t .z)) rfl rfl ?_
    refine mRdG rfl rfl rfl (.s (.s (.s (.s (.s (.s .z)))))) (decide_eq_true h1) (fun _ _ _ => dFld fld_66_2 (by decide) (.t .z) rfl) rfl rfl ?_
    refine mRdG rfl rfl rfl (.s (.s (.s (.s (.s (.s (.s .z))))))) (decide_eq_true h1) (fun _ _ _ => dLoad (.s (.s .z)) agg_3 (.t .z) rfl) rfl rfl ?_
    refine mRdG rfl rfl rfl (.s (.s (.s (.s (.s (.s (.s (.s .z)))))))) (decide_eq_true h1) (fun _ _ _ => dEq (.t (.s (.s (.s (.s .z))))) (.t .z)) rfl rfl ?_
    refine mRd rfl rfl (fun _ _ _ => dPickT (.t (.s (.s (.s (.s (.s (.s (.s (.s (.s .z)))))))))) (decide_eq_true h1) (.t .z)) rfl rfl ?_
    refine mRd rfl rfl (fun _ _ _ => dMove (.t .z)) rfl rfl ?_
    refine mCase (fun h2 => ?_) (fun h2 => ?_)
    · refine mRdG rfl rfl rfl .z (decide_eq_true h2) (fun _ _ _ => dMove (.t (.s (.s (.s (.s (.s (.s (.s (.s (.s (.s (.s (.s (.s (.s (.s (.s (.s (.s (.s (.s (.s (.s .z)))))))))))))))))))))))) rfl rfl ?_
      refine mRdG rfl rfl rfl (.s .z) (decide_eq_true h2) (fun _ _ _ => dNil (.t .z)) rfl rfl ?_
      refine mRdG rfl rfl rfl (.s (.s .z)) (decide_eq_true h2) (fun _ _ _ => dFld fld_66_1 (by decide) (.t .z) rfl) rfl rfl ?_
      refine mRdG rfl rfl rfl (.s (.s (.s .z))) (decide_eq_true h2) (fun _ _ _ => dLoad .z agg_27 (.t .z) rfl) rfl rfl ?_
      refine mRdG rfl rfl rfl (.s (.s (.s (.s .z)))) (decide_eq_true h2) (fun _ _ _ => dMove (.t (.s (.s (.s (.s (.s (.s (.s (.s (.s (.s (.s (.s (.s (.s (.s (.s (.s (.s (.s (.s (.s (.s (.s (.s (.s (.s (.s .z))))))))))))))))))))))))))))) rfl rfl ?_
      refine mRdG rfl rfl rfl (.s (.s (.s (.s (.s .z))))) (decide_eq_true h2) (fun _ _ _ => dNil (.t .z)) rfl rfl ?_
      refine mRdG rfl rfl rfl (.s (.s (.s (.s (.s (.s .z)))))) (decide_eq_true h2) (fun _ _ _ => dFld fld_66_1 (by decide) (.t .z) rfl) rfl rfl ?_
      refine mRdG rfl rfl rfl (.s (.s (.s (.s (.s (.s (.s .z))))))) (decide_eq_true h2) (fun _ _ _ => dLoad (.s (.s .z)) agg_27 (.t .z) rfl) rfl rfl ?_
      refine mCallQG rfl rfl rfl (.s (.s (.s (.s (.s (.s (.s (.s .z)))))))) (decide_eq_true h2) fok_23 (.c (.t (.s (.s (.s (.s .z))))) (.c (.t .z) .n)) (slices_Equal_api_Cell_api_Cell_v0_c K a0.f_cells a1.f_cells v0_1 v1_1) (.c (.s .z) (.c (.s (.s .z)) .n)) (fun _ _ => rfl) (fun _ _ => (.c (.s (.s .z)) (.c .z (.c (.s .z) (.c .z .nil))))) rfl rfl fun o3 h5 => ?_
      refine mRd rfl rfl (fun _ _ _ => dPickT (.t (.s (.s (.s (.s (.s (.s (.s (.s (.s .z)))))))))) (decide_eq_true h2) (.t .z)) rfl rfl ?_
      refine mRdK rfl rfl (fun _ _ _ => dAssign (.t .z)) (.k (.k (.k (.k (.k (.k (.k (.k (.k (.k (.k (.k (.k (.k (.k (.k (.k (.k (.k (.k (.k (.k (.k (.k (.k (.k (.k (.k (.k (.k (.k (.d (Keep.refl _))))))))))))))))))))))))))))))))) rfl rfl ?_
      refine mKeep (.k .n) ?_
      refine mNil ?_
      refine xCode ?_
      refine cRet ?_
      refine rLeave hD ?_
      exact lvRet (rs := [.tmp 4]) rfl (.t .z .n) () rfl (.c .z (.c .z (.c .z (.c .z .nil))))
    · refine mPass rfl rfl rfl .z (nbT (decide_eq_false h2)) rfl ?_
      refine mPass rfl rfl rfl .z (nbT (decide_eq_false h2)) rfl ?_
      refine mPass rfl rfl rfl .z (nbT (decide_eq_false h2)) rfl ?_
      refine mPass rfl rfl rfl .z (nbT (decide_eq_false h2)) rfl ?_
      refine mPass rfl rfl rfl .z (nbT (decide_eq_false h2)) rfl ?_
      refine mPass rfl rfl rfl .z (nbT (decide_eq_false h2)) rfl ?_
      refine mPass rfl rfl rfl .z (nbT (decide_eq_false h2)) rfl ?_
      refine mPass rfl rfl rfl .z (nbT (decide_eq_false h2)) rfl ?_
      refine mPass rfl rfl rfl .z (nbT (decide_eq_false h2)) rfl ?_
      refine mRd rfl rfl (fun _ _ _ => dPickF (.t .z) (decide_eq_false h2) (.c rfl)) rfl rfl ?_
      refine mRdK rfl rfl (fun _ _ _ => dAssign (.t .z)) (.k (.k (.k (.k (.k (.k (.k (.k (.k (.k (.k (.k (.k (.k (.k (.k (.k (.k (.k (.k (.k (.k (.d (Keep.refl _)))))))))))))))))))))))) rfl rfl ?_
      refine mKeep (.k .n) ?_
      refine mNil ?_
      refine xCode ?_
      refine cRet ?_
      refine rLeave hD ?_
      exact lvRet (rs := [.tmp 4]) rfl (.t .z .n) () rfl (.c .z (.c .z (.c .z (.c .z .nil))))
  · refine mPass rfl rfl rfl .z (nbT (decide_eq_false h1)) rfl ?_
    refine mPass rfl rfl rfl .z (nbT (decide_eq_false h1)) rfl ?_
    refine mPass rfl rfl rfl .z (nbT (decide_eq_false h1)) rfl ?_
    refine mPass rfl rfl rfl .z (nbT (decide_eq_false h1)) rfl ?_
    refine mPass rfl rfl rfl .z (nbT (decide_eq_false h1)) rfl ?_
    refine mPass rfl rfl rfl .z (nbT (decide_eq_false h1)) rfl ?_
    refine mPass rfl rfl rfl .z (nbT (decide_eq_false h1)) rfl ?_
    refine mPass rfl rfl rfl .z (nbT (decide_eq_false h1)) rfl ?_
    refine mPass rfl rfl rfl .z (nbT (decide_eq_false h1)) rfl ?_
    refine mRd rfl rfl (fun _ _ _ => dPickF (.t .z) (decide_eq_false h1) (.c rfl)) rfl rfl ?_
    refine mRd rfl rfl (fun _ _ _ => dMove (.t .z)) rfl rfl ?_
    refine mPass rfl rfl rfl .z (nbT rfl) rfl ?_
    refine mPass rfl rfl rfl .z (nbT rfl) rfl ?_
    refine mPass rfl rfl rfl .z (nbT rfl) rfl ?_
    refine mPass rfl rfl rfl .z (nbT rfl) rfl ?_
    refine mPass rfl rfl rfl .z (nbT rfl) rfl ?_
    refine mPass rfl rfl rfl .z (nbT rfl) rfl ?_
    refine mPass rfl rfl rfl .z (nbT rfl) rfl ?_
    refine mPass rfl rfl rfl .z (nbT rfl) rfl ?_
    refine mPass rfl rfl rfl .z (nbT rfl) rfl ?_
    refine mRd rfl rfl (fun _ _ _ => dPickF (.t .z) rfl (.c rfl)) rfl rfl ?_
    refine mRdK rfl rfl (fun _ _ _ => dAssign (.t .z)) (.k (.k (.k (.k (.k (.k (.k (.k (.k (.k (.k (.k (.k (.d (Keep.refl _))))))))))))))) rfl rfl ?_
    refine mKeep (.k .n) ?_
    refine mNil ?_
    refine xCode ?_
    refine cRet ?_
    refine rLeave hD ?_
    exact lvRet (rs := [.tmp 4]) rfl (.t .z .n) () rfl (.c .z (.c .z (.c .z (.c .z .nil))))

-- greenscreen/greenscreenlaw18.ScreenErases
def law18_ScreenErases_l1 (K : Nat) (a2 : (List (List UInt8))) : Nat → (Int × Int × Int × Int × Int × Int × Int × Int × (List api_Cell) × Int) → Option (Sum (Int × Int × Int × Int × Int × Int × Int × (List api_Cell) × Int) (Bool))
  | 0, _ => none
  | n + 1, s19 => (if s19.1 < (a2.length : Int) then (ix a2 s19.1).bind fun y25 => (if (y25.length : Int) > 200 then some (Sum.inr true) else (screen_Screen_Run_m K (⟨(⟨s19.2.1, s19.2.2.1⟩ : api_Size), (⟨s19.2.2.2.1, s19.2.2.2.2.1⟩ : api_Size), s19.2.2.2.2.2.1, (⟨(⟨s19.2.2.2.2.2.2.1, s19.2.2.2.2.2.2.2.1⟩ : api_Size), s19.2.2.2.2.2.2.2.2.1, s19.2.2.2.2.2.2.2.2.2⟩ : plane_Plane)⟩ : screen_Screen) y25).bind fun o30 => ((if o30.2.f_Err ≠ 0 then (if o30.2.f_Reply ≠ (0 : UInt8) then some true else (if o30.2.f_Restore = true then some true else some o30.2.f_Alarm)) else some false)).bind fun (s37 : Bool) => (if s37 = true then some (Sum.inr false) else (law18_ScreenErases_l1 K a2 n) (w64 (s19.1 + 1), o30.1.f_sizes_0.f_Rows, o30.1.f_sizes_0.f_Cols, o30.1.f_sizes_1.f_Rows, o30.1.f_sizes_1.f_Cols, o30.1.f_which, o30.1.f_p.f_size.f_Rows, o30.1.f_p.f_size.f_Cols, o30.1.f_p.f_cells, o30.1.f_p.f_cursor))) else some (Sum.inl (s19.2.1, s19.2.2.1, s19.2.2.2.1, s19.2.2.2.2.1, s19.2.2.2.2.2.1, s19.2.2.2.2.2.2.1, s19.2.2.2.2.2.2.2.1, s19.2.2.2.2.2.2.2.2.1, s19.2.2.2.2.2.2.2.2.2)))
def law18_ScreenErases_l2 (K : Nat) (a2 : (List (List UInt8))) : Nat → (Unit) → Option (Sum (Unit) (Bool))
  | 0, _ => none
  | n + 1, s111 => (if 0 < (a2.length : Int) then (ix a2 0).bind fun y117 => (if (y117.length : Int) > 200 then some (Sum.inr true) else none) else some (Sum.inl ()))
def law18_ScreenErases_m (K : Nat) (a0 : api_Size) (a1 : api_Size) (a2 : (List (List UInt8))) (a3 : (List UInt8)) : Option (Bool) := (law18_alive_m K).bind fun o3 => (if (!o3) = true then some false else (law18_made_m a0 a1).bind (onE (fun (o7 : screen_Screen × ref18_Screen) => ((if (a2.length : Int) > 8 then some true else some (decide ((a3.length : Int) > 200)))).bind fun (s16 : Bool) => (if s16 = true then some true else (law18_ScreenErases_l1 K a2 K (0, o7.1.f_sizes_0.f_Rows, o7.1.f_sizes_0.f_Cols, o7.1.f_sizes_1.f_Rows, o7.1.f_sizes_1.f_Cols, o7.1.f_which, o7.1.f_p.f_size.f_Rows, o7.1.f_p.f_size.f_Cols, o7.1.f_p.f_cells, o7.1.f_p.f_cursor)).bind (onS fun (s40 : Int × Int × Int × Int × Int × Int × Int × (List api_Cell) × Int) => (screen_Screen_Clone_m (⟨(⟨s40.1, s40.2.1⟩ : api_Size), (⟨s40.2.2.1, s40.2.2.2.1⟩ : api_Size), s40.2.2.2.2.1, (⟨(⟨s40.2.2.2.2.2.1, s40.2.2.2.2.2.2.1⟩ : api_Size), s40.2.2.2.2.2.2.2.1, s40.2.2.2.2.2.2.2.2⟩ : plane_Plane)⟩ : screen_Screen)).bind fun o42 => (screen_Screen_Run_m K (⟨(⟨s40.1, s40.2.1⟩ : api_Size), (⟨s40.2.2.1, s40.2.2.2.1⟩ : api_Size), s40.2.2.2.2.1, (⟨(⟨s40.2.2.2.2.2.1, s40.2.2.2.2.2.2.1⟩ : api_Size), s40.2.2.2.2.2.2.2.1, s40.2.2.2.2.2.2.2.2⟩ : plane_Plane)⟩ : screen_Screen) ([(246 : UInt8)] : List UInt8)).bind fun o46 => ((if o46.2.f_Reply ≠ (246 : UInt8) then some true else (if o46.2.f_Err ≠ 0 then some true else (screen_Screen_Plane_m o46.1).bind fun o52 => (screen_Screen_Plane_m o42).bind fun o55 => (plane_Same_m K o46.1.f_p o42.f_p).bind fun o58 => some (!o58)))).bind fun (s61 : Bool) => (if s61 = true then some false else (screen_New_m a0 a1).bind (onE (fun (o64 : screen_Screen) => (app ([(245 : UInt8)] : List UInt8) a3).bind fun zs71 => (screen_Screen_Run_m K o46.1 zs71).bind fun o74 => (screen_Screen_Run_m K o64 zs71).bind fun o77 => (if (!decide (o74.2 = o77.2)) = true then some false else (if (a3.length : Int) = 0 then some true else (screen_Screen_Plane_m o74.1).bind fun o84 => (screen_Screen_Plane_m o77.1).bind fun o87 => (plane_Same_m K o74.1.f_p o77.1.f_p).bind fun o90 => (if o90 = true then (screen_Screen_Other_m o74.1).bind fun o94 => some (!o94) else some false)))) (fun (o67 : Unit) => (app ([(245 : UInt8)] : List UInt8) a3).bind fun zs98 => (screen_Screen_Run_m K o46.1 zs98).bind fun o101 => none)))))) (fun (o10 : ref18_Screen × Bool) => ((if (!o10.2) = true then some true else (if (a2.length : Int) > 8 then some true else some (decide ((a3.length : Int) > 200))))).bind fun (s108 : Bool) => (if s108 = true then some true else (law18_ScreenErases_l2 K a2 K ()).bind (onS fun (s122 : Unit) => none)))))
theorem law18_ScreenErases_c (K : Nat) (a0 : api_Size) (a1 : api_Size) (a2 : (List (List UInt8))) (a3 : (List UInt8)) (v2_0 : Value) (v3_0 : Value) : Con Try.prog 4 #[.agg #[.int .i64 a0.f_Rows, .int .i64 a0.f_Cols], .agg #[.int .i64 a1.f_Rows, .int .i64 a1.f_Cols], v2_0, v3_0] [.ro (kSl (kSl kB)) [v2_0] a2, .ro (kSl kB) [v3_0] a3] (law18_ScreenErases_m K a0 a1 a2 a3) (fun (o : Bool) (x : Unit) => .bool o) (fun (o : Bool) (x : Unit) => []) := by
  unfold law18_ScreenErases_m
  refine con (args := [.agg #[.int .i64 a0.f_Rows, .int .i64 a0.f_Cols], .agg #[.int .i64 a1.f_Rows, .int .i64 a1.f_Cols], v2_0, v3_0]) Try.func4 rfl 126 rfl (.c (.c (.c (.c .n)))) rfl fun c hD hrn => ?_
  refine cSeq ?_
  refine cRegion ?_
  refine lCh (cBox (cs := [.int .i64 a0.f_Rows, .int .i64 a0.f_Cols]) (.t .z) rfl) rfl rfl fun b1 => ?_
  refine lCh (cBox (cs := [.int .i64 a1.f_Rows, .int .i64 a1.f_Cols]) (.t (.s (.s .z))) rfl) rfl rfl fun b2 => ?_
  refine lRd (dAssign (.c rfl)) rfl rfl ?_
  refine lKeep (.k (.k (.k (.d (.d (.k (.k .n))))))) ?_
  refine lNil ?_
  refine xCode ?_
  refine cSeq ?_
  refine cSeq ?_
  refine cRegion ?_
  refine lCall fok_6 .n (law18_alive_c K) .n rfl rfl fun o3 x4 h5 => ?_
  refine lRd (dNot (.t .z)) rfl rfl ?_
  refine lKeep (.k (.d (.k (.k (.k (.k (.k .n))))))) ?_
  refine lNil ?_
  refine xCode ?_
  refine cCondB (.t .z) (fun h6 => ?_) (fun h6 => ?_)
  · refine cSeq ?_
    refine cRegion ?_
    refine lRdK (dAssign (.c rfl)) (.k (.d (Keep.refl _))) rfl rfl ?_
    refine lKeep (.k (.d (.k (.k (.k (.k .n)))))) ?_
    refine lNil ?_
    refine xCode ?_
    refine cRet ?_
    refine rLeave hD ?_
    exact lvRet (rs := [.tmp 8]) rfl (.t .z .n) () rfl .nil
  · refine cSkip ?_
    refine xCode ?_
    refine cSeq ?_
    refine cRegion ?_
    refine lRd (dLoadA (us := [.int .i64 a0.f_Rows, .int .i64 a0.f_Cols]) (.s .z) agg_23 siz_23 rfl (.t (.s (.s (.s .z)))) rfl) rfl rfl ?_
    refine lRd (dLoadA (us := [.int .i64 a1.f_Rows, .int .i64 a1.f_Cols]) .z agg_23 siz_23 rfl (.t (.s (.s (.s .z)))) rfl) rfl rfl ?_
    refine lCallS fok_7 (.c (.t (.s .z)) (.c (.t .z) .n)) (law18_made_c a0 a1) .n rfl rfl (fun o7 x8 h9 => ?_) (fun o10 x11 h12 => ?_)
    · refine lRd (dMove (.t .z)) rfl rfl ?_
      refine lRd (dExtract (.t .z) rfl) rfl rfl ?_
      refine lRd (dExtract (.t (.s .z)) rfl) rfl rfl ?_
      refine lRd (dExtract (.t (.s (.s .z))) rfl) rfl rfl ?_
      refine lCh (cAlloc (cs := [.int .i64 0, .int .i64 0, .int .i64 0, .int .i64 0, .int .i64 0, .int .i64 0, .slice none 0 0, .int .i64 0, .bool false]) zer_31 rfl) rfl rfl fun b13 => ?_
      refine lRd (dAssign (.t (.s (.s (.s .z))))) rfl rfl ?_
      refine lFact (oneRo (.s (.s (.s (.s .z))))) fun h14 => ?_
      refine lChU (uStoreA (us := [.int .i64 o7.2.f_Plain.f_Rows, .int .i64 o7.2.f_Plain.f_Cols, .int .i64 o7.2.f_More.f_Rows, .int .i64 o7.2.f_More.f_Cols, .int .i64 o7.2.f_P.f_Size.f_Rows, .int .i64 o7.2.f_P.f_Size.f_Cols, x8.1.2.2.2, .int .i64 o7.2.f_P.f_Cursor, .bool o7.2.f_Other]) (cs' := [.int .i64 o7.2.f_Plain.f_Rows, .int .i64 o7.2.f_Plain.f_Cols, .int .i64 o7.2.f_More.f_Rows, .int .i64 o7.2.f_More.f_Cols, .int .i64 o7.2.f_P.f_Size.f_Rows, .int .i64 o7.2.f_P.f_Size.f_Cols, x8.1.2.2.2, .int .i64 o7.2.f_P.f_Cursor, .bool o7.2.f_Other]) .z siz_31 rfl (by intro u hu; simp only [List.mem_cons, List.not_mem_nil, or_false] at hu; rcases hu with rfl | rfl | rfl | rfl | rfl | rfl | rfl | rfl | rfl <;> first | rfl | assumption) rfl (by simp) (.t (.s .z)) (.t (.s (.s (.s .z))))) ?_
      refine lRd (dAssign (.t (.s (.s .z)))) rfl rfl ?_
      refine lKeep (.k (.k (.d (.d (.d (.d (.d (.d (.d (.d (.d (.k (.k (.k (.k (.k .n)))))))))))))))) ?_
      refine lNil ?_
      refine xCode ?_
      refine cSeq ?_
      refine cSeq ?_
      refine cJoin (S := Bool) (X := Unit) (fun (s : Bool) (x : Unit) => [(42, .bool s), (9, .pointer (some ⟨x8.1.1, 0, none⟩)), (8, .bool false), (5, .pointer (some ⟨b2, 0, none⟩)), (4, .pointer (some ⟨b1, 0, none⟩)), (2, v2_0), (3, v3_0)]) (fun (s : Bool) (x : Unit) => [.blk b13 [.int .i64 o7.2.f_Plain.f_Rows, .int .i64 o7.2.f_Plain.f_Cols, .int .i64 o7.2.f_More.f_Rows, .int .i64 o7.2.f_More.f_Cols, .int .i64 o7.2.f_P.f_Size.f_Rows, .int .i64 o7.2.f_P.f_Size.f_Cols, x8.1.2.2.2, .int .i64 o7.2.f_P.f_Cursor, .bool o7.2.f_Other] 31, .blk x8.1.1 [.int .i64 o7.1.f_sizes_0.f_Rows, .int .i64 o7.1.f_sizes_0.f_Cols, .int .i64 o7.1.f_sizes_1.f_Rows, .int .i64 o7.1.f_sizes_1.f_Cols, .int .i64 o7.1.f_which, .pointer (some ⟨x8.1.2.1, 0, none⟩)] 64, .blk x8.1.2.1 [.int .i64 o7.1.f_p.f_size.f_Rows, .int .i64 o7.1.f_p.f_size.f_Cols, x8.1.2.2.1, .int .i64 o7.1.f_p.f_cursor] 66, .own x8.1.2.2.1 44 k_api_Cell o7.1.f_p.f_cells, .ro (kSl k_api_Cell) [x8.1.2.2.2] o7.2.f_P.f_Cells, .blk b2 [.int .i64 a1.f_Rows, .int .i64 a1.f_Cols] 23, .blk b1 [.int .i64 a0.f_Rows, .int .i64 a0.f_Cols] 23, .ro (kSl (kSl kB)) [v2_0] a2, .ro (kSl kB) [v3_0] a3]) ?_ (fun s16 x17 => ?_)
      · refine cRegion ?_
        refine lRd (dMove (.t .z)) rfl rfl ?_
        refine lRd (dNot (.t .z)) rfl rfl ?_
        refine lRd (dMove (.t .z)) rfl rfl ?_
        refine lRdG rfl .z rfl (dMove (.t (.s (.s (.s (.s (.s (.s (.s (.s .z)))))))))) rfl rfl ?_
        refine lRdG rfl (.s .z) rfl (dLen (at_ := #[24]) (slRo (.s (.s (.s (.s (.s (.s (.s .z)))))))) rfl und_24 (.t .z)) rfl rfl ?_
        refine lRdG rfl (.s (.s .z)) rfl (dGt (.t .z) (.c rfl)) rfl rfl ?_
        refine lRd (dPickF (.t (.s (.s (.s .z)))) rfl (.t .z)) rfl rfl ?_
        refine lRd (dMove (.t .z)) rfl rfl ?_
        refine lCase (fun h15 => ?_) (fun h15 => ?_)
        · refine lPass rfl .z (nbF (decide_eq_true h15)) rfl ?_
          refine lPass rfl .z (nbF (decide_eq_true h15)) rfl ?_
          refine lPass rfl .z (nbF (decide_eq_true h15)) rfl ?_
          refine lRd (dPickT (.t .z) (decide_eq_true h15) (.c rfl)) rfl rfl ?_
          refine lKeep (.k (.d (.d (.d (.d (.d (.d (.d (.d (.d (.k (.k (.k (.k (.k (.k .n)))))))))))))))) ?_
          refine lNil ?_
          exact xJoin true () (.c .z (.c (.s .z) (.c (.s (.s .z)) (.c (.s (.s (.s .z))) (.c (.s (.s (.s (.s .z)))) (.c (.s (.s (.s (.s (.s .z))))) (.c (.s (.s (.s (.s (.s (.s .z)))))) .n))))))) (.c .z (.c .z (.c .z (.c .z (.c .z (.c .z (.c .z (.c .z (.c .z .nil)))))))))
        · refine lRdG rfl .z (decide_eq_false h15) (dMove (.t (.s (.s (.s (.s (.s (.s (.s (.s (.s (.s (.s (.s (.s (.s .z)))))))))))))))) rfl rfl ?_
          refine lRdG rfl (.s .z) (decide_eq_false h15) (dLen (at_ := #[34]) (slRo (.s (.s (.s (.s (.s (.s (.s (.s .z))))))))) rfl und_34 (.t .z)) rfl rfl ?_
          refine lRdG rfl (.s (.s .z)) (decide_eq_false h15) (dGt (.t .z) (.c rfl)) rfl rfl ?_
          refine lRd (dPickF (.t (.s (.s (.s .z)))) (decide_eq_false h15) (.t .z)) rfl rfl ?_
          refine lKeep (.k (.d (.d (.d (.d (.d (.d (.d (.d (.d (.d (.d (.d (.k (.k (.k (.k (.k (.k .n))))))))))))))))))) ?_
          refine lNil ?_
          exact xJoin (decide ((a3.length : Int) > 200)) () (.c .z (.c (.s .z) (.c (.s (.s .z)) (.c (.s (.s (.s .z))) (.c (.s (.s (.s (.s .z)))) (.c (.s (.s (.s (.s (.s .z))))) (.c (.s (.s (.s (.s (.s (.s .z)))))) .n))))))) (.c .z (.c .z (.c .z (.c .z (.c .z (.c .z (.c .z (.c .z (.c .z .nil)))))))))
      · refine xCode ?_
        refine cCondB (.t .z) (fun h18 => ?_) (fun h18 => ?_)
        · refine cSeq ?_
          refine cRegion ?_
          refine lRdK (dAssign (.c rfl)) (.k (.k (.d (Keep.refl _)))) rfl rfl ?_
          refine lKeep (.k (.d (.k (.k (.k (.k (.k .n))))))) ?_
          refine lNil ?_
          refine xCode ?_
          refine cRet ?_
          refine rLeave hD ?_
          exact lvRet (rs := [.tmp 8]) rfl (.t .z .n) () rfl .nil
        · refine cSkip ?_
          refine xCode ?_
          refine cSeq ?_
          refine cSeq ?_
          refine cRegion ?_
          refine lRd (dMove (.t (.s (.s (.s (.s (.s .z))))))) rfl rfl ?_
          refine lRd (dLen (at_ := #[24]) (slRo (.s (.s (.s (.s (.s (.s (.s .z)))))))) rfl und_24 (.t .z)) rfl rfl ?_
          refine lRd (dMove (.c rfl)) rfl rfl ?_
          refine lKeep (.k (.k (.k (.d (.k (.k (.k (.k (.d (.k .n)))))))))) ?_
          refine lNil ?_
          refine xCode ?_
          refine cLoopR (S := Int × Int × Int × Int × Int × Int × Int × Int × (List api_Cell) × Int) (X := Nat × Value) (S' := Int × Int × Int × Int × Int × Int × Int × (List api_Cell) × Int) (X' := Nat × Value) (law18_ScreenErases_l1 K a2) (fun (s : Int × Int × Int × Int × Int × Int × Int × Int × (List api_Cell) × Int) (x : Nat × Value) => [(45, .int .i64 s.1), (44, .int .i64 (a2.length : Int)), (43, v2_0), (9, .pointer (some ⟨x8.1.1, 0, none⟩)), (8, .bool false), (5, .pointer (some ⟨b2, 0, none⟩)), (4, .pointer (some ⟨b1, 0, none⟩)), (3, v3_0)]) (fun (s : Int × Int × Int × Int × Int × Int × Int × Int × (List api_Cell) × Int) (x : Nat × Value) => [.blk b13 [.int .i64 o7.2.f_Plain.f_Rows, .int .i64 o7.2.f_Plain.f_Cols, .int .i64 o7.2.f_More.f_Rows, .int .i64 o7.2.f_More.f_Cols, .int .i64 o7.2.f_P.f_Size.f_Rows, .int .i64 o7.2.f_P.f_Size.f_Cols, x8.1.2.2.2, .int .i64 o7.2.f_P.f_Cursor, .bool o7.2.f_Other] 31, .blk x8.1.1 [.int .i64 s.2.1, .int .i64 s.2.2.1, .int .i64 s.2.2.2.1, .int .i64 s.2.2.2.2.1, .int .i64 s.2.2.2.2.2.1, .pointer (some ⟨x.1, 0, none⟩)] 64, .blk x.1 [.int .i64 s.2.2.2.2.2.2.1, .int .i64 s.2.2.2.2.2.2.2.1, x.2, .int .i64 s.2.2.2.2.2.2.2.2.2] 66, .own x.2 44 k_api_Cell s.2.2.2.2.2.2.2.2.1, .ro (kSl k_api_Cell) [x8.1.2.2.2] o7.2.f_P.f_Cells, .blk b2 [.int .i64 a1.f_Rows, .int .i64 a1.f_Cols] 23, .blk b1 [.int .i64 a0.f_Rows, .int .i64 a0.f_Cols] 23, .ro (kSl (kSl kB)) [v2_0] a2, .ro (kSl kB) [v3_0] a3]) (fun (s : Int × Int × Int × Int × Int × Int × Int × (List api_Cell) × Int) (x : Nat × Value) => [(9, .pointer (some ⟨x8.1.1, 0, none⟩)), (8, .bool false), (5, .pointer (some ⟨b2, 0, none⟩)), (4, .pointer (some ⟨b1, 0, none⟩)), (3, v3_0)]) (fun (s : Int × Int × Int × Int × Int × Int × Int × (List api_Cell) × Int) (x : Nat × Value) => [.blk b13 [.int .i64 o7.2.f_Plain.f_Rows, .int .i64 o7.2.f_Plain.f_Cols, .int .i64 o7.2.f_More.f_Rows, .int .i64 o7.2.f_More.f_Cols, .int .i64 o7.2.f_P.f_Size.f_Rows, .int .i64 o7.2.f_P.f_Size.f_Cols, x8.1.2.2.2, .int .i64 o7.2.f_P.f_Cursor, .bool o7.2.f_Other] 31, .blk x8.1.1 [.int .i64 s.1, .int .i64 s.2.1, .int .i64 s.2.2.1, .int .i64 s.2.2.2.1, .int .i64 s.2.2.2.2.1, .pointer (some ⟨x.1, 0, none⟩)] 64, .blk x.1 [.int .i64 s.2.2.2.2.2.1, .int .i64 s.2.2.2.2.2.2.1, x.2, .int .i64 s.2.2.2.2.2.2.2.2] 66, .own x.2 44 k_api_Cell s.2.2.2.2.2.2.2.1, .ro (kSl k_api_Cell) [x8.1.2.2.2] o7.2.f_P.f_Cells, .blk b2 [.int .i64 a1.f_Rows, .int .i64 a1.f_Cols] 23, .blk b1 [.int .i64 a0.f_Rows, .int .i64 a0.f_Cols] 23, .ro (kSl (kSl kB)) [v2_0] a2, .ro (kSl kB) [v3_0] a3]) K (0, o7.1.f_sizes_0.f_Rows, o7.1.f_sizes_0.f_Cols, o7.1.f_sizes_1.f_Rows, o7.1.f_sizes_1.f_Cols, o7.1.f_which, o7.1.f_p.f_size.f_Rows, o7.1.f_p.f_size.f_Cols, o7.1.f_p.f_cells, o7.1.f_p.f_cursor) (x8.1.2.1, x8.1.2.2.1) (.c .z (.c (.s .z) (.c (.s (.s .z)) (.c (.s (.s (.s .z))) (.c (.s (.s (.s (.s .z)))) (.c (.s (.s (.s (.s (.s .z))))) (.c (.s (.s (.s (.s (.s (.s .z)))))) (.c (.s (.s (.s (.s (.s (.s (.s .z))))))) .n)))))))) (.c .z (.c .z (.c .z (.c .z (.c .z (.c .z (.c .z (.c .z (.c .z .nil))))))))) (fun _ => rfl) (fun n21 I22 h23 s19 x20 => ?_) (fun s40 x41 => ?_)
          · rw [law18_ScreenErases_l1]
            refine cSeq ?_
            refine cRegion ?_
            refine lRd (dLt (.t .z) (.t (.s .z))) rfl rfl ?_
            refine lNil ?_
            refine xCode ?_
            refine cSeq ?_
            refine cCond (.t .z) (fun h24 => ?_) (fun h24 => ?_)
            · refine cSkip ?_
              refine xCode ?_
              refine cSeq ?_
              refine cBlock ?_
              refine cSeq ?_
              refine cRegion ?_
              refine lIx fun y25 h26 h27 => ?_
              refine lRd (dIxAddr (slRo (.s (.s (.s (.s (.s (.s (.s .z)))))))) und_24 siz_34 (.t (.s (.s (.s .z)))) (.t (.s .z)) h26 h27) rfl rfl ?_
              refine lCh (cLoadRoS (k := kB) (.s (.s (.s (.s (.s (.s (.s .z))))))) agg_34 (.t .z) h27) rfl rfl fun v28 => ?_
              refine lRd (dAssign (.t .z)) rfl rfl ?_
              refine lNil ?_
              refine xCode ?_
              refine cSeq ?_
              refine cSeq ?_
              refine cRegion ?_
              refine lRd (dMove (.t .z)) rfl rfl ?_
              refine lRd (dLen (at_ := #[34]) (slRo .z) rfl und_34 (.t .z)) rfl rfl ?_
              refine lRd (dGt (.t .z) (.c rfl)) rfl rfl ?_
              refine lNil ?_
              refine xCode ?_
              refine cCond (.t .z) (fun h29 => ?_) (fun h29 => ?_)
              · refine cSeq ?_
                refine cRegion ?_
                refine lRdK (dAssign (.c rfl)) (.k (.k (.k (.k (.k (.k (.k (.k (.k (.k (.k (.d (Keep.refl _))))))))))))) rfl rfl ?_
                refine lNil ?_
                refine xCode ?_
                refine cRet ?_
                refine rInner ?_
                refine rLeave hD ?_
                exact lvRet (rs := [.tmp 8]) rfl (.t .z .n) () rfl .nil
              · refine cSkip ?_
                refine xCode ?_
                refine cSeq ?_
                refine cRegion ?_
                refine lRd (dMove (.t (.s (.s (.s (.s (.s (.s (.s (.s (.s (.s .z)))))))))))) rfl rfl ?_
                refine lRd (dMove (.t (.s (.s (.s (.s .z)))))) rfl rfl ?_
                refine lCall fok_8 (.c (.t (.s .z)) (.c (.t .z) .n)) (screen_Screen_Run_c K (⟨(⟨s19.2.1, s19.2.2.1⟩ : api_Size), (⟨s19.2.2.2.1, s19.2.2.2.2.1⟩ : api_Size), s19.2.2.2.2.2.1, (⟨(⟨s19.2.2.2.2.2.2.1, s19.2.2.2.2.2.2.2.1⟩ : api_Size), s19.2.2.2.2.2.2.2.2.1, s19.2.2.2.2.2.2.2.2.2⟩ : plane_Plane)⟩ : screen_Screen) y25 x8.1.1 x20.1 x20.2 v28) (.c (.s (.s .z)) (.c (.s (.s .z)) (.c (.s (.s .z)) (.r .z .n)))) rfl rfl fun o30 x31 h32 => ?_
                refine lCh (cAlloc (cs := [vB 0, .bool false, .bool false, .int .i64 0]) zer_37 rfl) rfl rfl fun b33 => ?_
                refine lChU (uStoreA (us := [vB o30.2.f_Reply, .bool o30.2.f_Restore, .bool o30.2.f_Alarm, .int .i64 o30.2.f_Err]) (cs' := [vB o30.2.f_Reply, .bool o30.2.f_Restore, .bool o30.2.f_Alarm, .int .i64 o30.2.f_Err]) .z siz_37 rfl (by intro u hu; simp only [List.mem_cons, List.not_mem_nil, or_false] at hu; rcases hu with rfl | rfl | rfl | rfl <;> first | rfl | assumption) rfl (by simp) (.t .z) (.t (.s .z))) ?_
                refine lNil ?_
                refine xCode ?_
                refine cSeq ?_
                refine cJoin (S := Bool) (X := Unit) (fun (s : Bool) (x : Unit) => [(70, .bool s), (58, .bool (decide (o30.2.f_Err ≠ 0))), (57, .bool (decide (o30.2.f_Err ≠ 0))), (56, .int .i64 o30.2.f_Err), (55, .pointer (some ⟨b33, 3, none⟩)), (14, .pointer (some ⟨b33, 0, none⟩)), (54, .agg #[vB o30.2.f_Reply, .bool o30.2.f_Restore, .bool o30.2.f_Alarm, .int .i64 o30.2.f_Err]), (53, v28), (52, .pointer (some ⟨x8.1.1, 0, none⟩)), (51, .bool (decide ((y25.length : Int) > 200))), (50, .int .i64 (y25.length : Int)), (49, v28), (13, v28), (48, v28), (46, .bool (decide (s19.1 < (a2.length : Int)))), (45, .int .i64 s19.1), (44, .int .i64 (a2.length : Int)), (43, v2_0), (9, .pointer (some ⟨x8.1.1, 0, none⟩)), (8, .bool false), (5, .pointer (some ⟨b2, 0, none⟩)), (4, .pointer (some ⟨b1, 0, none⟩)), (3, v3_0)]) (fun (s : Bool) (x : Unit) => [.blk b33 [vB o30.2.f_Reply, .bool o30.2.f_Restore, .bool o30.2.f_Alarm, .int .i64 o30.2.f_Err] 37, .blk x8.1.1 [.int .i64 o30.1.f_sizes_0.f_Rows, .int .i64 o30.1.f_sizes_0.f_Cols, .int .i64 o30.1.f_sizes_1.f_Rows, .int .i64 o30.1.f_sizes_1.f_Cols, .int .i64 o30.1.f_which, .pointer (some ⟨x31.1, 0, none⟩)] 64, .blk x31.1 [.int .i64 o30.1.f_p.f_size.f_Rows, .int .i64 o30.1.f_p.f_size.f_Cols, x31.2, .int .i64 o30.1.f_p.f_cursor] 66, .own x31.2 44 k_api_Cell o30.1.f_p.f_cells, .ro (kSl kB) [v28] y25, .blk b13 [.int .i64 o7.2.f_Plain.f_Rows, .int .i64 o7.2.f_Plain.f_Cols, .int .i64 o7.2.f_More.f_Rows, .int .i64 o7.2.f_More.f_Cols, .int .i64 o7.2.f_P.f_Size.f_Rows, .int .i64 o7.2.f_P.f_Size.f_Cols, x8.1.2.2.2, .int .i64 o7.2.f_P.f_Cursor, .bool o7.2.f_Other] 31, .ro (kSl k_api_Cell) [x8.1.2.2.2] o7.2.f_P.f_Cells, .blk b2 [.int .i64 a1.f_Rows, .int .i64 a1.f_Cols] 23, .blk b1 [.int .i64 a0.f_Rows, .int .i64 a0.f_Cols] 23, .ro (kSl (kSl kB)) [v2_0] a2, .ro (kSl kB) [v3_0] a3]) ?_ (fun s37 x38 => ?_)
                · refine cRegion ?_
                  refine lRd (dFld fld_37_3 (by decide) (.t .z) rfl) rfl rfl ?_
                  refine lRd (dLoad .z agg_35 (.t .z) rfl) rfl rfl ?_
                  refine lRd (dNe (.t .z) (.c rfl)) rfl rfl ?_
                  refine lRd (dMove (.t .z)) rfl rfl ?_
                  refine lCase (fun h34 => ?_) (fun h34 => ?_)
                  · refine lRdG rfl .z (decide_eq_true h34) (dFld fld_37_0 (by decide) (.t (.s (.s (.s (.s .z))))) rfl) rfl rfl ?_
                    refine lRdG rfl (.s .z) (decide_eq_true h34) (dLoad .z agg_5 (.t .z) rfl) rfl rfl ?_
                    refine lRdG rfl (.s (.s .z)) (decide_eq_true h34) (dNeB (.t .z) (.c (v' := vB 0) rfl)) rfl rfl ?_
                    refine lRdG rfl (.s (.s (.s .z))) (decide_eq_true h34) (dMove (.t .z)) rfl rfl ?_
                    refine lCase (fun h35 => ?_) (fun h35 => ?_)
                    · refine lPass rfl .z (nbF (decide_eq_true h35)) rfl ?_
                      refine lPass rfl .z (nbF (decide_eq_true h35)) rfl ?_
                      refine lRdG rfl (.s (.s (.s (.s .z)))) (decide_eq_true h34) (dPickT (.t .z) (decide_eq_true h35) (.c rfl)) rfl rfl ?_
                      refine lRdG rfl (.s (.s (.s (.s (.s .z))))) (decide_eq_true h34) (dMove (.t .z)) rfl rfl ?_
                      refine lPass rfl .z (nbF rfl) rfl ?_
                      refine lPass rfl .z (nbF rfl) rfl ?_
                      refine lRdG rfl (.s (.s (.s (.s (.s (.s .z)))))) (decide_eq_true h34) (dPickT (.t .z) rfl (.c rfl)) rfl rfl ?_
                      refine lRd (dPickT (.t (.s (.s (.s (.s (.s (.s (.s .z)))))))) (decide_eq_true h34) (.t .z)) rfl rfl ?_
                      refine lNil ?_
                      exact xJoin true () (.c .z (.c (.s (.s (.s (.s (.s (.s (.s (.s .z)))))))) (.c (.s (.s (.s (.s (.s (.s (.s (.s (.s .z))))))))) (.c (.s (.s (.s (.s (.s (.s (.s (.s (.s (.s .z)))))))))) (.c (.s (.s (.s (.s (.s (.s (.s (.s (.s (.s (.s .z))))))))))) (.c (.s (.s (.s (.s (.s (.s (.s (.s (.s (.s (.s (.s .z)))))))))))) (.c (.s (.s (.s (.s (.s (.s (.s (.s (.s (.s (.s (.s (.s .z))))))))))))) (.c (.s (.s (.s (.s (.s (.s (.s (.s (.s (.s (.s (.s (.s (.s .z)))))))))))))) (.c (.s (.s (.s (.s (.s (.s (.s (.s (.s (.s (.s (.s (.s (.s (.s .z))))))))))))))) (.c (.s (.s (.s (.s (.s (.s (.s (.s (.s (.s (.s (.s (.s (.s (.s (.s .z)))))))))))))))) (.c (.s (.s (.s (.s (.s (.s (.s (.s (.s (.s (.s (.s (.s (.s (.s (.s (.s .z))))))))))))))))) (.c (.s (.s (.s (.s (.s (.s (.s (.s (.s (.s (.s (.s (.s (.s (.s (.s (.s (.s .z)))))))))))))))))) (.c (.s (.s (.s (.s (.s (.s (.s (.s (.s (.s (.s (.s (.s (.s (.s (.s (.s (.s (.s .z))))))))))))))))))) (.c (.s (.s (.s (.s (.s (.s (.s (.s (.s (.s (.s (.s (.s (.s (.s (.s (.s (.s (.s (.s .z)))))))))))))))))))) (.c (.s (.s (.s (.s (.s (.s (.s (.s (.s (.s (.s (.s (.s (.s (.s (.s (.s (.s (.s (.s (.s (.s .z)))))))))))))))))))))) (.c (.s (.s (.s (.s (.s (.s (.s (.s (.s (.s (.s (.s (.s (.s (.s (.s (.s (.s (.s (.s (.s (.s (.s .z))))))))))))))))))))))) (.c (.s (.s (.s (.s (.s (.s (.s (.s (.s (.s (.s (.s (.s (.s (.s (.s (.s (.s (.s (.s (.s (.s (.s (.s .z)))))))))))))))))))))))) (.c (.s (.s (.s (.s (.s (.s (.s (.s (.s (.s (.s (.s (.s (.s (.s (.s (.s (.s (.s (.s (.s (.s (.s (.s (.s .z))))))))))))))))))))))))) (.c (.s (.s (.s (.s (.s (.s (.s (.s (.s (.s (.s (.s (.s (.s (.s (.s (.s (.s (.s (.s (.s (.s (.s (.s (.s (.s .z)))))))))))))))))))))))))) (.c (.s (.s (.s (.s (.s (.s (.s (.s (.s (.s (.s (.s (.s (.s (.s (.s (.s (.s (.s (.s (.s (.s (.s (.s (.s (.s (.s .z))))))))))))))))))))))))))) (.c (.s (.s (.s (.s (.s (.s (.s (.s (.s (.s (.s (.s (.s (.s (.s (.s (.s (.s (.s (.s (.s (.s (.s (.s (.s (.s (.s (.s .z)))))))))))))))))))))))))))) (.c (.s (.s (.s (.s (.s (.s (.s (.s (.s (.s (.s (.s (.s (.s (.s (.s (.s (.s (.s (.s (.s (.s (.s (.s (.s (.s (.s (.s (.s .z))))))))))))))))))))))))))))) (.c (.s (.s (.s (.s (.s (.s (.s (.s (.s (.s (.s (.s (.s (.s (.s (.s (.s (.s (.s (.s (.s (.s (.s (.s (.s (.s (.s (.s (.s (.s .z)))))))))))))))))))))))))))))) .n))))))))))))))))))))))) (.c .z (.c .z (.c .z (.c .z (.c .z (.c .z (.c .z (.c .z (.c .z (.c .z (.c .z .nil)))))))))))
                    · refine lRdG rfl .z (decide_eq_false h35) (dFld fld_37_1 (by decide) (.t (.s (.s (.s (.s (.s (.s (.s (.s .z))))))))) rfl) rfl rfl ?_
                      refine lRdG rfl (.s .z) (decide_eq_false h35) (dLoad .z agg_4 (.t .z) rfl) rfl rfl ?_
                      refine lRdG rfl (.s (.s (.s (.s (.s (.s .z)))))) (decide_eq_true h34) (dPickF (.t (.s (.s .z))) (decide_eq_false h35) (.t .z)) rfl rfl ?_
                      refine lRdG rfl (.s (.s (.s (.s (.s (.s (.s .z))))))) (decide_eq_true h34) (dMove (.t .z)) rfl rfl ?_
                      refine lCase (fun h36 => ?_) (fun h36 => ?_)
                      · refine lPass rfl .z (nbF h36) rfl ?_
                        refine lPass rfl .z (nbF h36) rfl ?_
                        refine lRdG rfl (.s (.s (.s (.s (.s (.s (.s (.s .z)))))))) (decide_eq_true h34) (dPickT (.t .z) h36 (.c rfl)) rfl rfl ?_
                        refine lRd (dPickT (.t (.s (.s (.s (.s (.s (.s (.s (.s (.s .z)))))))))) (decide_eq_true h34) (.t .z)) rfl rfl ?_
                        refine lNil ?_
                        exact xJoin true () (.c .z (.c (.s (.s (.s (.s (.s (.s (.s (.s (.s (.s .z)))))))))) (.c (.s (.s (.s (.s (.s (.s (.s (.s (.s (.s (.s .z))))))))))) (.c (.s (.s (.s (.s (.s (.s (.s (.s (.s (.s (.s (.s .z)))))))))))) (.c (.s (.s (.s (.s (.s (.s (.s (.s (.s (.s (.s (.s (.s .z))))))))))))) (.c (.s (.s (.s (.s (.s (.s (.s (.s (.s (.s (.s (.s (.s (.s .z)))))))))))))) (.c (.s (.s (.s (.s (.s (.s (.s (.s (.s (.s (.s (.s (.s (.s (.s .z))))))))))))))) (.c (.s (.s (.s (.s (.s (.s (.s (.s (.s (.s (.s (.s (.s (.s (.s (.s .z)))))))))))))))) (.c (.s (.s (.s (.s (.s (.s (.s (.s (.s (.s (.s (.s (.s (.s (.s (.s (.s .z))))))))))))))))) (.c (.s (.s (.s (.s (.s (.s (.s (.s (.s (.s (.s (.s (.s (.s (.s (.s (.s (.s .z)))))))))))))))))) (.c (.s (.s (.s (.s (.s (.s (.s (.s (.s (.s (.s (.s (.s (.s (.s (.s (.s (.s (.s .z))))))))))))))))))) (.c (.s (.s (.s (.s (.s (.s (.s (.s (.s (.s (.s (.s (.s (.s (.s (.s (.s (.s (.s (.s .z)))))))))))))))))))) (.c (.s (.s (.s (.s (.s (.s (.s (.s (.s (.s (.s (.s (.s (.s (.s (.s (.s (.s (.s (.s (.s .z))))))))))))))))))))) (.c (.s (.s (.s (.s (.s (.s (.s (.s (.s (.s (.s (.s (.s (.s (.s (.s (.s (.s (.s (.s (.s (.s .z)))))))))))))))))))))) (.c (.s (.s (.s (.s (.s (.s (.s (.s (.s (.s (.s (.s (.s (.s (.s (.s (.s (.s (.s (.s (.s (.s (.s (.s .z)))))))))))))))))))))))) (.c (.s (.s (.s (.s (.s (.s (.s (.s (.s (.s (.s (.s (.s (.s (.s (.s (.s (.s (.s (.s (.s (.s (.s (.s (.s .z))))))))))))))))))))))))) (.c (.s (.s (.s (.s (.s (.s (.s (.s (.s (.s (.s (.s (.s (.s (.s (.s (.s (.s (.s (.s (.s (.s (.s (.s (.s (.s .z)))))))))))))))))))))))))) (.c (.s (.s (.s (.s (.s (.s (.s (.s (.s (.s (.s (.s (.s (.s (.s (.s (.s (.s (.s (.s (.s (.s (.s (.s (.s (.s (.s .z))))))))))))))))))))))))))) (.c (.s (.s (.s (.s (.s (.s (.s (.s (.s (.s (.s (.s (.s (.s (.s (.s (.s (.s (.s (.s (.s (.s (.s (.s (.s (.s (.s (.s .z)))))))))))))))))))))))))))) (.c (.s (.s (.s (.s (.s (.s (.s (.s (.s (.s (.s (.s (.s (.s (.s (.s (.s (.s (.s (.s (.s (.s (.s (.s (.s (.s (.s (.s (.s .z))))))))))))))))))))))))))))) (.c (.s (.s (.s (.s (.s (.s (.s (.s (.s (.s (.s (.s (.s (.s (.s (.s (.s (.s (.s (.s (.s (.s (.s (.s (.s (.s (.s (.s (.s (.s .z)))))))))))))))))))))))))))))) (.c (.s (.s (.s (.s (.s (.s (.s (.s (.s (.s (.s (.s (.s (.s (.s (.s (.s (.s (.s (.s (.s (.s (.s (.s (.s (.s (.s (.s (.s (.s (.s .z))))))))))))))))))))))))))))))) (.c (.s (.s (.s (.s (.s (.s (.s (.s (.s (.s (.s (.s (.s (.s (.s (.s (.s (.s (.s (.s (.s (.s (.s (.s (.s (.s (.s (.s (.s (.s (.s (.s .z)))))))))))))))))))))))))))))))) .n))))))))))))))))))))))) (.c .z (.c .z (.c .z (.c .z (.c .z (.c .z (.c .z (.c .z (.c .z (.c .z (.c .z .nil)))))))))))
                      · refine lRdG rfl .z (Bool.eq_false_iff.mpr h36) (dFld fld_37_2 (by decide) (.t (.s (.s (.s (.s (.s (.s (.s (.s (.s (.s (.s (.s .z))))))))))))) rfl) rfl rfl ?_
                        refine lRdG rfl (.s .z) (Bool.eq_false_iff.mpr h36) (dLoad .z agg_4 (.t .z) rfl) rfl rfl ?_
                        refine lRdG rfl (.s (.s (.s (.s (.s (.s (.s (.s (.s (.s .z)))))))))) (decide_eq_true h34) (dPickF (.t (.s (.s .z))) (Bool.eq_false_iff.mpr h36) (.t .z)) rfl rfl ?_
                        refine lRd (dPickT (.t (.s (.s (.s (.s (.s (.s (.s (.s (.s (.s (.s .z)))))))))))) (decide_eq_true h34) (.t .z)) rfl rfl ?_
                        refine lNil ?_
                        exact xJoin o30.2.f_Alarm () (.c .z (.c (.s (.s (.s (.s (.s (.s (.s (.s (.s (.s (.s (.s .z)))))))))))) (.c (.s (.s (.s (.s (.s (.s (.s (.s (.s (.s (.s (.s (.s .z))))))))))))) (.c (.s (.s (.s (.s (.s (.s (.s (.s (.s (.s (.s (.s (.s (.s .z)))))))))))))) (.c (.s (.s (.s (.s (.s (.s (.s (.s (.s (.s (.s (.s (.s (.s (.s .z))))))))))))))) (.c (.s (.s (.s (.s (.s (.s (.s (.s (.s (.s (.s (.s (.s (.s (.s (.s .z)))))))))))))))) (.c (.s (.s (.s (.s (.s (.s (.s (.s (.s (.s (.s (.s (.s (.s (.s (.s (.s .z))))))))))))))))) (.c (.s (.s (.s (.s (.s (.s (.s (.s (.s (.s (.s (.s (.s (.s (.s (.s (.s (.s .z)))))))))))))))))) (.c (.s (.s (.s (.s (.s (.s (.s (.s (.s (.s (.s (.s (.s (.s (.s (.s (.s (.s (.s .z))))))))))))))))))) (.c (.s (.s (.s (.s (.s (.s (.s (.s (.s (.s (.s (.s (.s (.s (.s (.s (.s (.s (.s (.s .z)))))))))))))))))))) (.c (.s (.s (.s (.s (.s (.s (.s (.s (.s (.s (.s (.s (.s (.s (.s (.s (.s (.s (.s (.s (.s .z))))))))))))))))))))) (.c (.s (.s (.s (.s (.s (.s (.s (.s (.s (.s (.s (.s (.s (.s (.s (.s (.s (.s (.s (.s (.s (.s .z)))))))))))))))))))))) (.c (.s (.s (.s (.s (.s (.s (.s (.s (.s (.s (.s (.s (.s (.s (.s (.s (.s (.s (.s (.s (.s (.s (.s .z))))))))))))))))))))))) (.c (.s (.s (.s (.s (.s (.s (.s (.s (.s (.s (.s (.s (.s (.s (.s (.s (.s (.s (.s (.s (.s (.s (.s (.s .z)))))))))))))))))))))))) (.c (.s (.s (.s (.s (.s (.s (.s (.s (.s (.s (.s (.s (.s (.s (.s (.s (.s (.s (.s (.s (.s (.s (.s (.s (.s (.s .z)))))))))))))))))))))))))) (.c (.s (.s (.s (.s (.s (.s (.s (.s (.s (.s (.s (.s (.s (.s (.s (.s (.s (.s (.s (.s (.s (.s (.s (.s (.s (.s (.s .z))))))))))))))))))))))))))) (.c (.s (.s (.s (.s (.s (.s (.s (.s (.s (.s (.s (.s (.s (.s (.s (.s (.s (.s (.s (.s (.s (.s (.s (.s (.s (.s (.s (.s .z)))))))))))))))))))))))))))) (.c (.s (.s (.s (.s (.s (.s (.s (.s (.s (.s (.s (.s (.s (.s (.s (.s (.s (.s (.s (.s (.s (.s (.s (.s (.s (.s (.s (.s (.s .z))))))))))))))))))))))))))))) (.c (.s (.s (.s (.s (.s (.s (.s (.s (.s (.s (.s (.s (.s (.s (.s (.s (.s (.s (.s (.s (.s (.s (.s (.s (.s (.s (.s (.s (.s (.s .z)))))))))))))))))))))))))))))) (.c (.s (.s (.s (.s (.s (.s (.s (.s (.s (.s (.s (.s (.s (.s (.s (.s (.s (.s (.s (.s (.s (.s (.s (.s (.s (.s (.s (.s (.s (.s (.s .z))))))))))))))))))))))))))))))) (.c (.s (.s (.s (.s (.s (.s (.s (.s (.s (.s (.s (.s (.s (.s (.s (.s (.s (.s (.s (.s (.s (.s (.s (.s (.s (.s (.s (.s (.s (.s (.s (.s .z)))))))))))))))))))))))))))))))) (.c (.s (.s (.s (.s (.s (.s (.s (.s (.s (.s (.s (.s (.s (.s (.s (.s (.s (.s (.s (.s (.s (.s (.s (.s (.s (.s (.s (.s (.s (.s (.s (.s (.s .z))))))))))))))))))))))))))))))))) (.c (.s (.s (.s (.s (.s (.s (.s (.s (.s (.s (.s (.s (.s (.s (.s (.s (.s (.s (.s (.s (.s (.s (.s (.s (.s (.s (.s (.s (.s (.s (.s (.s (.s (.s .z)))))))))))))))))))))))))))))))))) .n))))))))))))))))))))))) (.c .z (.c .z (.c .z (.c .z (.c .z (.c .z (.c .z (.c .z (.c .z (.c .z (.c .z .nil)))))))))))
                  · refine lPass rfl .z (nbT (decide_eq_false h34)) rfl ?_
                    refine lPass rfl .z (nbT (decide_eq_false h34)) rfl ?_
                    refine lPass rfl .z (nbT (decide_eq_false h34)) rfl ?_
                    refine lPassU rfl .z (nbT (decide_eq_false h34)) rfl rfl ?_
                    refine lPass rfl .z nbU rfl ?_
                    refine lPass rfl .z nbU rfl ?_
                    refine lPass rfl (.s .z) (nbT (decide_eq_false h34)) rfl ?_
                    refine lPassU rfl (.s .z) (nbT (decide_eq_false h34)) rfl rfl ?_
                    refine lPass rfl .z nbU rfl ?_
                    refine lPass rfl .z nbU rfl ?_
                    refine lPass rfl (.s (.s .z)) (nbT (decide_eq_false h34)) rfl ?_
                    refine lRd (dPickF (.t (.s (.s .z))) (decide_eq_false h34) (.c rfl)) rfl rfl ?_
                    refine lNil ?_
                    exact xJoin false () (.c .z (.c (.s (.s (.s .z))) (.c (.s (.s (.s (.s .z)))) (.c (.s (.s (.s (.s (.s .z))))) (.c (.s (.s (.s (.s (.s (.s .z)))))) (.c (.s (.s (.s (.s (.s (.s (.s .z))))))) (.c (.s (.s (.s (.s (.s (.s (.s (.s .z)))))))) (.c (.s (.s (.s (.s (.s (.s (.s (.s (.s .z))))))))) (.c (.s (.s (.s (.s (.s (.s (.s (.s (.s (.s .z)))))))))) (.c (.s (.s (.s (.s (.s (.s (.s (.s (.s (.s (.s .z))))))))))) (.c (.s (.s (.s (.s (.s (.s (.s (.s (.s (.s (.s (.s .z)))))))))))) (.c (.s (.s (.s (.s (.s (.s (.s (.s (.s (.s (.s (.s (.s .z))))))))))))) (.c (.s (.s (.s (.s (.s (.s (.s (.s (.s (.s (.s (.s (.s (.s .z)))))))))))))) (.c (.s (.s (.s (.s (.s (.s (.s (.s (.s (.s (.s (.s (.s (.s (.s .z))))))))))))))) (.c (.s (.s (.s (.s (.s (.s (.s (.s (.s (.s (.s (.s (.s (.s (.s (.s (.s .z))))))))))))))))) (.c (.s (.s (.s (.s (.s (.s (.s (.s (.s (.s (.s (.s (.s (.s (.s (.s (.s (.s .z)))))))))))))))))) (.c (.s (.s (.s (.s (.s (.s (.s (.s (.s (.s (.s (.s (.s (.s (.s (.s (.s (.s (.s .z))))))))))))))))))) (.c (.s (.s (.s (.s (.s (.s (.s (.s (.s (.s (.s (.s (.s (.s (.s (.s (.s (.s (.s (.s .z)))))))))))))))))))) (.c (.s (.s (.s (.s (.s (.s (.s (.s (.s (.s (.s (.s (.s (.s (.s (.s (.s (.s (.s (.s (.s .z))))))))))))))))))))) (.c (.s (.s (.s (.s (.s (.s (.s (.s (.s (.s (.s (.s (.s (.s (.s (.s (.s (.s (.s (.s (.s (.s .z)))))))))))))))))))))) (.c (.s (.s (.s (.s (.s (.s (.s (.s (.s (.s (.s (.s (.s (.s (.s (.s (.s (.s (.s (.s (.s (.s (.s .z))))))))))))))))))))))) (.c (.s (.s (.s (.s (.s (.s (.s (.s (.s (.s (.s (.s (.s (.s (.s (.s (.s (.s (.s (.s (.s (.s (.s (.s .z)))))))))))))))))))))))) (.c (.s (.s (.s (.s (.s (.s (.s (.s (.s (.s (.s (.s (.s (.s (.s (.s (.s (.s (.s (.s (.s (.s (.s (.s (.s .z))))))))))))))))))))))))) .n))))))))))))))))))))))) (.c .z (.c .z (.c .z (.c .z (.c .z (.c .z (.c .z (.c .z (.c .z (.c .z (.c .z .nil)))))))))))
                · refine xCode ?_
                  refine cCondB (.t .z) (fun h39 => ?_) (fun h39 => ?_)
                  · refine cSeq ?_
                    refine cRegion ?_
                    refine lRdK (dAssign (.c rfl)) (.k (.k (.k (.k (.k (.k (.k (.k (.k (.k (.k (.k (.k (.k (.k (.k (.k (.k (.k (.d (Keep.refl _))))))))))))))))))))) rfl rfl ?_
                    refine lNil ?_
                    refine xCode ?_
                    refine cRet ?_
                    refine rInner ?_
                    refine rLeave hD ?_
                    exact lvRet (rs := [.tmp 8]) rfl (.t .z .n) () rfl .nil
                  · refine cSkip ?_
                    refine xBlock ?_
                    refine xCode ?_
                    refine cRegion ?_
                    refine lRd (dAddI (.t (.s (.s (.s (.s (.s (.s (.s (.s (.s (.s (.s (.s (.s (.s (.s .z)))))))))))))))) (.c rfl)) rfl rfl ?_
                    refine lRdK (dMove (.t .z)) (.k (.k (.k (.k (.k (.k (.k (.k (.k (.k (.k (.k (.k (.k (.k (.k (.d (Keep.refl _)))))))))))))))))) rfl rfl ?_
                    refine lNil ?_
                    exact xRound h23 (w64 (s19.1 + 1), o30.1.f_sizes_0.f_Rows, o30.1.f_sizes_0.f_Cols, o30.1.f_sizes_1.f_Rows, o30.1.f_sizes_1.f_Cols, o30.1.f_which, o30.1.f_p.f_size.f_Rows, o30.1.f_p.f_size.f_Cols, o30.1.f_p.f_cells, o30.1.f_p.f_cursor) (x31.1, x31.2) (.c .z (.c (.s (.s (.s (.s (.s (.s (.s (.s (.s (.s (.s (.s (.s (.s (.s (.s (.s .z))))))))))))))))) (.c (.s (.s (.s (.s (.s (.s (.s (.s (.s (.s (.s (.s (.s (.s (.s (.s (.s (.s .z)))))))))))))))))) (.c (.s (.s (.s (.s (.s (.s (.s (.s (.s (.s (.s (.s (.s (.s (.s (.s (.s (.s (.s .z))))))))))))))))))) (.c (.s (.s (.s (.s (.s (.s (.s (.s (.s (.s (.s (.s (.s (.s (.s (.s (.s (.s (.s (.s .z)))))))))))))))))))) (.c (.s (.s (.s (.s (.s (.s (.s (.s (.s (.s (.s (.s (.s (.s (.s (.s (.s (.s (.s (.s (.s .z))))))))))))))))))))) (.c (.s (.s (.s (.s (.s (.s (.s (.s (.s (.s (.s (.s (.s (.s (.s (.s (.s (.s (.s (.s (.s (.s .z)))))))))))))))))))))) (.c (.s (.s (.s (.s (.s (.s (.s (.s (.s (.s (.s (.s (.s (.s (.s (.s (.s (.s (.s (.s (.s (.s (.s .z))))))))))))))))))))))) .n)))))))) (.c (.s (.s (.s (.s (.s .z))))) (.c (.s .z) (.c (.s .z) (.c (.s .z) (.c (.s (.s .z)) (.c (.s (.s .z)) (.c (.s (.s .z)) (.c (.s (.s .z)) (.c (.s (.s .z)) .nil)))))))))
            · refine cExit ?_
              refine xOver ?_
              refine xOverF ?_
              exact xBreakR (s19.2.1, s19.2.2.1, s19.2.2.2.1, s19.2.2.2.2.1, s19.2.2.2.2.2.1, s19.2.2.2.2.2.2.1, s19.2.2.2.2.2.2.2.1, s19.2.2.2.2.2.2.2.2.1, s19.2.2.2.2.2.2.2.2.2) (x20.1, x20.2) (.c (.s (.s (.s (.s .z)))) (.c (.s (.s (.s (.s (.s .z))))) (.c (.s (.s (.s (.s (.s (.s .z)))))) (.c (.s (.s (.s (.s (.s (.s (.s .z))))))) (.c (.s (.s (.s (.s (.s (.s (.s (.s .z)))))))) .n))))) (.c .z (.c .z (.c .z (.c .z (.c .z (.c .z (.c .z (.c .z (.c .z .nil)))))))))
          · refine xCode ?_
            refine cSeq ?_
            refine cRegion ?_
            refine lRd (dMove (.t .z)) rfl rfl ?_
            refine lCall fok_14 (.c (.t .z) .n) (screen_Screen_Clone_c (⟨(⟨s40.1, s40.2.1⟩ : api_Size), (⟨s40.2.2.1, s40.2.2.2.1⟩ : api_Size), s40.2.2.2.2.1, (⟨(⟨s40.2.2.2.2.2.1, s40.2.2.2.2.2.2.1⟩ : api_Size), s40.2.2.2.2.2.2.2.1, s40.2.2.2.2.2.2.2.2⟩ : plane_Plane)⟩ : screen_Screen) x8.1.1 x41.1 x41.2) (.c (.s .z) (.c (.s .z) (.c (.s .z) .n))) rfl rfl fun o42 x43 h44 => ?_
            refine lRd (dAssign (.t .z)) rfl rfl ?_
            refine lKeep (.k (.d (.d (.k (.k (.k (.k (.k .n)))))))) ?_
            refine lNil ?_
            refine xCode ?_
            refine cSeq ?_
            refine cRegion ?_
            refine lRd (dMove (.t (.s .z))) rfl rfl ?_
            refine lCh (cBuildSlice (te := 5) (k := kB) (css := [[vB (246 : UInt8)]]) (xs := ([(246 : UInt8)] : List UInt8)) und_34 siz_5 zer_5 rfl (by decide) rfl (.c (.c (v' := vB 246) rfl) .n) rfl (fun zs h => match zs, h with | [_], _ => rfl) rfl (fun _ _ _ => (.cons rfl .nil))) rfl rfl fun b45 => ?_
            refine lSt (SX.freeze Upd.z) ?_
            refine lCall fok_8 (.c (.t (.s .z)) (.c (.t .z) .n)) (screen_Screen_Run_c K (⟨(⟨s40.1, s40.2.1⟩ : api_Size), (⟨s40.2.2.1, s40.2.2.2.1⟩ : api_Size), s40.2.2.2.2.1, (⟨(⟨s40.2.2.2.2.2.1, s40.2.2.2.2.2.2.1⟩ : api_Size), s40.2.2.2.2.2.2.2.1, s40.2.2.2.2.2.2.2.2⟩ : plane_Plane)⟩ : screen_Screen) ([(246 : UInt8)] : List UInt8) x8.1.1 x41.1 x41.2 (.slice (some ⟨b45, 0, none⟩) 1 1)) (.c (.s .z) (.c (.s .z) (.c (.s .z) (.r .z .n)))) rfl rfl fun o46 x47 h48 => ?_
            refine lCh (cAlloc (cs := [vB 0, .bool false, .bool false, .int .i64 0]) zer_37 rfl) rfl rfl fun b49 => ?_
            refine lChU (uStoreA (us := [vB o46.2.f_Reply, .bool o46.2.f_Restore, .bool o46.2.f_Alarm, .int .i64 o46.2.f_Err]) (cs' := [vB o46.2.f_Reply, .bool o46.2.f_Restore, .bool o46.2.f_Alarm, .int .i64 o46.2.f_Err]) .z siz_37 rfl (by intro u hu; simp only [List.mem_cons, List.not_mem_nil, or_false] at hu; rcases hu with rfl | rfl | rfl | rfl <;> first | rfl | assumption) rfl (by simp) (.t .z) (.t (.s .z))) ?_
            refine lKeep (.k (.d (.d (.d (.k (.k (.k (.k (.k (.k .n)))))))))) ?_
            refine lNil ?_
            refine xCode ?_
            refine cSeq ?_
            refine cSeq ?_
            refine cJoin (S := Bool) (X := Unit) (fun (s : Bool) (x : Unit) => [(92, .bool s), (9, .pointer (some ⟨x8.1.1, 0, none⟩)), (8, .bool false), (5, .pointer (some ⟨b2, 0, none⟩)), (4, .pointer (some ⟨b1, 0, none⟩)), (3, v3_0)]) (fun (s : Bool) (x : Unit) => [.blk b49 [vB o46.2.f_Reply, .bool o46.2.f_Restore, .bool o46.2.f_Alarm, .int .i64 o46.2.f_Err] 37, .blk x8.1.1 [.int .i64 o46.1.f_sizes_0.f_Rows, .int .i64 o46.1.f_sizes_0.f_Cols, .int .i64 o46.1.f_sizes_1.f_Rows, .int .i64 o46.1.f_sizes_1.f_Cols, .int .i64 o46.1.f_which, .pointer (some ⟨x47.1, 0, none⟩)] 64, .blk x47.1 [.int .i64 o46.1.f_p.f_size.f_Rows, .int .i64 o46.1.f_p.f_size.f_Cols, x47.2, .int .i64 o46.1.f_p.f_cursor] 66, .own x47.2 44 k_api_Cell o46.1.f_p.f_cells, .ro (kSl kB) [.slice (some ⟨b45, 0, none⟩) 1 1] ([(246 : UInt8)] : List UInt8), .blk x43.1 [.int .i64 o42.f_sizes_0.f_Rows, .int .i64 o42.f_sizes_0.f_Cols, .int .i64 o42.f_sizes_1.f_Rows, .int .i64 o42.f_sizes_1.f_Cols, .int .i64 o42.f_which, .pointer (some ⟨x43.2.1, 0, none⟩)] 64, .blk x43.2.1 [.int .i64 o42.f_p.f_size.f_Rows, .int .i64 o42.f_p.f_size.f_Cols, x43.2.2, .int .i64 o42.f_p.f_cursor] 66, .own x43.2.2 44 k_api_Cell o42.f_p.f_cells, .blk b13 [.int .i64 o7.2.f_Plain.f_Rows, .int .i64 o7.2.f_Plain.f_Cols, .int .i64 o7.2.f_More.f_Rows, .int .i64 o7.2.f_More.f_Cols, .int .i64 o7.2.f_P.f_Size.f_Rows, .int .i64 o7.2.f_P.f_Size.f_Cols, x8.1.2.2.2, .int .i64 o7.2.f_P.f_Cursor, .bool o7.2.f_Other] 31, .ro (kSl k_api_Cell) [x8.1.2.2.2] o7.2.f_P.f_Cells, .blk b2 [.int .i64 a1.f_Rows, .int .i64 a1.f_Cols] 23, .blk b1 [.int .i64 a0.f_Rows, .int .i64 a0.f_Cols] 23, .ro (kSl (kSl kB)) [v2_0] a2, .ro (kSl kB) [v3_0] a3]) ?_ (fun s61 x62 => ?_)
            · refine cRegion ?_
              refine lRd (dFld fld_37_0 (by decide) (.t .z) rfl) rfl rfl ?_
              refine lRd (dLoad .z agg_5 (.t .z) rfl) rfl rfl ?_
              refine lRd (dNeB (.t .z) (.c (v' := vB 246) rfl)) rfl rfl ?_
              refine lRd (dMove (.t .z)) rfl rfl ?_
              refine lCase (fun h50 => ?_) (fun h50 => ?_)
              · refine lPass rfl .z (nbF (decide_eq_true h50)) rfl ?_
                refine lPass rfl .z (nbF (decide_eq_true h50)) rfl ?_
                refine lPass rfl .z (nbF (decide_eq_true h50)) rfl ?_
                refine lRd (dPickT (.t .z) (decide_eq_true h50) (.c rfl)) rfl rfl ?_
                refine lRd (dMove (.t .z)) rfl rfl ?_
                refine lPass rfl .z (nbF rfl) rfl ?_
                refine lPass rfl .z (nbF rfl) rfl ?_
                refine lPass rfl .z (nbF rfl) rfl ?_
                refine lPass rfl .z (nbF rfl) rfl ?_
                refine lPass rfl .z (nbF rfl) rfl ?_
                refine lPass rfl .z (nbF rfl) rfl ?_
                refine lRd (dPickT (.t .z) rfl (.c rfl)) rfl rfl ?_
                refine lKeep (.k (.d (.d (.d (.d (.d (.d (.d (.d (.k (.k (.k (.k (.k .n)))))))))))))) ?_
                refine lNil ?_
                exact xJoin true () (.c .z (.c (.s .z) (.c (.s (.s .z)) (.c (.s (.s (.s .z))) (.c (.s (.s (.s (.s .z)))) (.c (.s (.s (.s (.s (.s .z))))) .n)))))) (.c .z (.c .z (.c .z (.c .z (.c .z (.c .z (.c .z (.c .z (.c .z (.c .z (.c .z (.c .z (.c .z (.c .z .nil))))))))))))))
              · refine lRdG rfl .z (decide_eq_false h50) (dFld fld_37_3 (by decide) (.t (.s (.s (.s (.s .z))))) rfl) rfl rfl ?_
                refine lRdG rfl (.s .z) (decide_eq_false h50) (dLoad .z agg_35 (.t .z) rfl) rfl rfl ?_
                refine lRdG rfl (.s (.s .z)) (decide_eq_false h50) (dNe (.t .z) (.c rfl)) rfl rfl ?_
                refine lRd (dPickF (.t (.s (.s (.s .z)))) (decide_eq_false h50) (.t .z)) rfl rfl ?_
                refine lRd (dMove (.t .z)) rfl rfl ?_
                refine lCase (fun h51 => ?_) (fun h51 => ?_)
                · refine lPass rfl .z (nbF (decide_eq_true h51)) rfl ?_
                  refine lPass rfl .z (nbF (decide_eq_true h51)) rfl ?_
                  refine lPass rfl .z (nbF (decide_eq_true h51)) rfl ?_
                  refine lPass rfl .z (nbF (decide_eq_true h51)) rfl ?_
                  refine lPass rfl .z (nbF (decide_eq_true h51)) rfl ?_
                  refine lPass rfl .z (nbF (decide_eq_true h51)) rfl ?_
                  refine lRd (dPickT (.t .z) (decide_eq_true h51) (.c rfl)) rfl rfl ?_
                  refine lKeep (.k (.d (.d (.d (.d (.d (.d (.d (.d (.d (.d (.d (.k (.k (.k (.k (.k .n))))))))))))))))) ?_
                  refine lNil ?_
                  exact xJoin true () (.c .z (.c (.s .z) (.c (.s (.s .z)) (.c (.s (.s (.s .z))) (.c (.s (.s (.s (.s .z)))) (.c (.s (.s (.s (.s (.s .z))))) .n)))))) (.c .z (.c .z (.c .z (.c .z (.c .z (.c .z (.c .z (.c .z (.c .z (.c .z (.c .z (.c .z (.c .z (.c .z .nil))))))))))))))
                · refine lRdG rfl .z (decide_eq_false h51) (dMove (.t (.s (.s (.s (.s (.s (.s (.s (.s (.s (.s (.s .z))))))))))))) rfl rfl ?_
                  refine lCallG rfl (.s .z) (decide_eq_false h51) fok_9 (.c (.t .z) .n) (screen_Screen_Plane_c o46.1 x8.1.1 x47.1 x47.2) (.c (.s .z) (.c (.s .z) (.c (.s .z) .n))) rfl rfl fun o52 x53 h54 => ?_
                  refine lRdG rfl (.s (.s .z)) (decide_eq_false h51) (dMove (.t (.s (.s (.s (.s (.s (.s (.s (.s (.s (.s (.s (.s .z)))))))))))))) rfl rfl ?_
                  refine lCallG rfl (.s (.s (.s .z))) (decide_eq_false h51) fok_9 (.c (.t .z) .n) (screen_Screen_Plane_c o42 x43.1 x43.2.1 x43.2.2) (.c (.s (.s (.s (.s (.s .z))))) (.c (.s (.s (.s (.s (.s .z))))) (.c (.s (.s (.s (.s (.s .z))))) .n))) rfl rfl fun o55 x56 h57 => ?_
                  refine lCallG rfl (.s (.s (.s (.s .z)))) (decide_eq_false h51) fok_15 (.c (.t (.s (.s .z))) (.c (.t .z) .n)) (plane_Same_c K o46.1.f_p o42.f_p x47.1 x47.2 x43.2.1 x43.2.2) (.c (.s (.s (.s (.s .z)))) (.c (.s (.s (.s (.s .z)))) (.c (.s .z) (.c (.s .z) .n)))) rfl rfl fun o58 x59 h60 => ?_
                  refine lRdG rfl (.s (.s (.s (.s (.s .z))))) (decide_eq_false h51) (dNot (.t .z)) rfl rfl ?_
                  refine lRd (dPickF (.t (.s (.s (.s (.s (.s (.s .z))))))) (decide_eq_false h51) (.t .z)) rfl rfl ?_
                  refine lKeep (.k (.d (.d (.d (.d (.d (.d (.d (.d (.d (.d (.d (.d (.d (.d (.d (.d (.d (.k (.k (.k (.k (.k .n))))))))))))))))))))))) ?_
                  refine lNil ?_
                  exact xJoin (!o58) () (.c .z (.c (.s .z) (.c (.s (.s .z)) (.c (.s (.s (.s .z))) (.c (.s (.s (.s (.s .z)))) (.c (.s (.s (.s (.s (.s .z))))) .n)))))) (.c (.s (.s (.s (.s (.s (.s .z)))))) (.c (.s (.s (.s (.s (.s .z))))) (.c .z (.c .z (.c (.s (.s (.s .z))) (.c (.s (.s .z)) (.c .z (.c .z (.c .z (.c .z (.c .z (.c .z (.c .z (.c .z .nil))))))))))))))
            · refine xCode ?_
              refine cCondB (.t .z) (fun h63 => ?_) (fun h63 => ?_)
              · refine cSeq ?_
                refine cRegion ?_
                refine lRdK (dAssign (.c rfl)) (.k (.k (.d (Keep.refl _)))) rfl rfl ?_
                refine lKeep (.k (.d (.k (.k (.k (.k .n)))))) ?_
                refine lNil ?_
                refine xCode ?_
                refine cRet ?_
                refine rLeave hD ?_
                exact lvRet (rs := [.tmp 8]) rfl (.t .z .n) () rfl .nil
              · refine cSkip ?_
                refine xCode ?_
                refine cSeq ?_
                refine cRegion ?_
                refine lRd (dLoadA (us := [.int .i64 a0.f_Rows, .int .i64 a0.f_Cols]) (.s (.s (.s (.s (.s (.s (.s (.s (.s (.s (.s .z))))))))))) agg_23 siz_23 rfl (.t (.s (.s (.s (.s .z))))) rfl) rfl rfl ?_
                refine lRd (dLoadA (us := [.int .i64 a1.f_Rows, .int .i64 a1.f_Cols]) (.s (.s (.s (.s (.s (.s (.s (.s (.s (.s .z)))))))))) agg_23 siz_23 rfl (.t (.s (.s (.s (.s .z))))) rfl) rfl rfl ?_
                refine lCallS fok_16 (.c (.t (.s .z)) (.c (.t .z) .n)) (screen_New_c a0 a1) .n rfl rfl (fun o64 x65 h66 => ?_) (fun o67 x68 h69 => ?_)
                · refine lRd (dMove (.t .z)) rfl rfl ?_
                  refine lRd (dExtract (.t .z) rfl) rfl rfl ?_
                  refine lRd (dExtract (.t (.s .z)) rfl) rfl rfl ?_
                  refine lRd (dAssign (.t (.s .z))) rfl rfl ?_
                  refine lRdN (dAssign (.t (.s .z))) rfl ?_
                  refine lKeep (.k (.d (.d (.d (.d (.d (.d (.d (.k (.k (.d (.d (.k .n))))))))))))) ?_
                  refine lNil ?_
                  refine xCode ?_
                  refine cSeq ?_
                  refine cRegion ?_
                  refine lCh (cBuildSlice (te := 5) (k := kB) (css := [[vB (245 : UInt8)]]) (xs := ([(245 : UInt8)] : List UInt8)) und_34 siz_5 zer_5 rfl (by decide) rfl (.c (.c (v' := vB 245) rfl) .n) rfl (fun zs h => match zs, h with | [_], _ => rfl) rfl (fun _ _ _ => (.cons rfl .nil))) rfl rfl fun b70 => ?_
                  refine lRd (dMove (.t (.s (.s (.s (.s .z)))))) rfl rfl ?_
                  refine lBind fun zs71 h72 => ?_
                  refine lCh (cAppend (xs := ([(245 : UInt8)] : List UInt8)) (ys := a3) .z (srcRo (.s (.s (.s (.s (.s (.s (.s (.s (.s (.s (.s (.s (.s (.s (.s (.s .z))))))))))))))))) (.t (.s .z)) (.t .z) und_34 und_34 rfl inf_5 rfl (by decide) h72) rfl rfl fun v73 => ?_
                  refine lRd (dAssign (.t .z)) rfl rfl ?_
                  refine lKeep (.k (.d (.d (.d (.k (.k (.k (.k .n)))))))) ?_
                  refine lNil ?_
                  refine xCode ?_
                  refine cSeq ?_
                  refine cRegion ?_
                  refine lRd (dMove (.t (.s (.s .z)))) rfl rfl ?_
                  refine lRd (dMove (.t (.s .z))) rfl rfl ?_
                  refine lSt (SX.freeze Upd.z) ?_
                  refine lCall fok_8 (.c (.t (.s .z)) (.c (.t .z) .n)) (screen_Screen_Run_c K o46.1 zs71 x8.1.1 x47.1 x47.2 v73) (.c (.s (.s (.s (.s (.s .z))))) (.c (.s (.s (.s (.s (.s .z))))) (.c (.s (.s (.s (.s (.s .z))))) (.r .z .n)))) rfl rfl fun o74 x75 h76 => ?_
                  refine lRd (dMove (.t (.s (.s (.s (.s .z)))))) rfl rfl ?_
                  refine lRd (dMove (.t (.s (.s (.s (.s .z)))))) rfl rfl ?_
                  refine lCall fok_8 (.c (.t (.s .z)) (.c (.t .z) .n)) (screen_Screen_Run_c K o64 zs71 x65.1.1 x65.1.2.1 x65.1.2.2 v73) (.c (.s (.s (.s (.s .z)))) (.c (.s (.s (.s (.s .z)))) (.c (.s (.s (.s (.s .z)))) (.r (.s (.s (.s .z))) .n)))) rfl rfl fun o77 x78 h79 => ?_
                  refine lCh (cAlloc (cs := [vB 0, .bool false, .bool false, .int .i64 0]) zer_37 rfl) rfl rfl fun b80 => ?_
                  refine lCh (cAlloc (cs := [vB 0, .bool false, .bool false, .int .i64 0]) zer_37 rfl) rfl rfl fun b81 => ?_
                  refine lChU (uStoreA (us := [vB o74.2.f_Reply, .bool o74.2.f_Restore, .bool o74.2.f_Alarm, .int .i64 o74.2.f_Err]) (cs' := [vB o74.2.f_Reply, .bool o74.2.f_Restore, .bool o74.2.f_Alarm, .int .i64 o74.2.f_Err]) (.s .z) siz_37 rfl (by intro u hu; simp only [List.mem_cons, List.not_mem_nil, or_false] at hu; rcases hu with rfl | rfl | rfl | rfl <;> first | rfl | assumption) rfl (by simp) (.t (.s .z)) (.t (.s (.s (.s (.s (.s .z))))))) ?_
                  refine lChU (uStoreA (us := [vB o77.2.f_Reply, .bool o77.2.f_Restore, .bool o77.2.f_Alarm, .int .i64 o77.2.f_Err]) (cs' := [vB o77.2.f_Reply, .bool o77.2.f_Restore, .bool o77.2.f_Alarm, .int .i64 o77.2.f_Err]) .z siz_37 rfl (by intro u hu; simp only [List.mem_cons, List.not_mem_nil, or_false] at hu; rcases hu with rfl | rfl | rfl | rfl <;> first | rfl | assumption) rfl (by simp) (.t .z) (.t (.s (.s .z)))) ?_
                  refine lKeep (.k (.k (.d (.d (.d (.d (.d (.d (.d (.k (.k (.k (.k .n))))))))))))) ?_
                  refine lNil ?_
                  refine xCode ?_
                  refine cSeq ?_
                  refine cSeq ?_
                  refine cRegion ?_
                  refine lRd (dLoadA (us := [vB o74.2.f_Reply, .bool o74.2.f_Restore, .bool o74.2.f_Alarm, .int .i64 o74.2.f_Err]) (.s .z) agg_37 siz_37 rfl (.t (.s .z)) rfl) rfl rfl ?_
                  refine lRd (dLoadA (us := [vB o77.2.f_Reply, .bool o77.2.f_Restore, .bool o77.2.f_Alarm, .int .i64 o77.2.f_Err]) .z agg_37 siz_37 rfl (.t (.s .z)) rfl) rfl rfl ?_
                  refine lRd (dNeA eqg_37 (eqa_37 o74.2 o77.2) (.t (.s .z)) (.t .z)) rfl rfl ?_
                  refine lKeep (.k (.d (.d (.d (.d (.k (.k (.k (.k .n))))))))) ?_
                  refine lNil ?_
                  refine xCode ?_
                  refine cCondB (.t .z) (fun h82 => ?_) (fun h82 => ?_)
                  · refine cSeq ?_
                    refine cRegion ?_
                    refine lRdK (dAssign (.c rfl)) (.k (.k (.k (.d (Keep.refl _))))) rfl rfl ?_
                    refine lKeep (.k (.d (.k (.k (.k .n))))) ?_
                    refine lNil ?_
                    refine xCode ?_
                    refine cRet ?_
                    refine rLeave hD ?_
                    exact lvRet (rs := [.tmp 8]) rfl (.t .z .n) () rfl .nil
                  · refine cSkip ?_
                    refine xCode ?_
                    refine cSeq ?_
                    refine cRegion ?_
                    refine lRd (dMove (.t (.s (.s (.s (.s .z)))))) rfl rfl ?_
                    refine lRd (dLen (at_ := #[34]) (slRo (.s (.s (.s (.s (.s (.s (.s (.s (.s (.s (.s (.s (.s (.s (.s (.s (.s (.s (.s .z)))))))))))))))))))) rfl und_34 (.t .z)) rfl rfl ?_
                    refine lRd (dEq (.t .z) (.c rfl)) rfl rfl ?_
                    refine lRd (dMove (.t .z)) rfl rfl ?_
                    refine lCase (fun h83 => ?_) (fun h83 => ?_)
                    · refine lPass rfl .z (nbF (decide_eq_true h83)) rfl ?_
                      refine lPass rfl .z (nbF (decide_eq_true h83)) rfl ?_
                      refine lPass rfl .z (nbF (decide_eq_true h83)) rfl ?_
                      refine lPass rfl .z (nbF (decide_eq_true h83)) rfl ?_
                      refine lPass rfl .z (nbF (decide_eq_true h83)) rfl ?_
                      refine lPassU rfl .z (nbF (decide_eq_true h83)) rfl rfl ?_
                      refine lPass rfl .z nbU rfl ?_
                      refine lPass rfl .z nbU rfl ?_
                      refine lPass rfl .z nbU rfl ?_
                      refine lPass rfl (.s .z) (nbF (decide_eq_true h83)) rfl ?_
                      refine lRd (dPickT (.t (.s .z)) (decide_eq_true h83) (.c rfl)) rfl rfl ?_
                      refine lRdK (dAssign (.t .z)) (.k (.k (.k (.k (.k (.k (.k (.k (.k (.d (Keep.refl _))))))))))) rfl rfl ?_
                      refine lKeep (.k .n) ?_
                      refine lNil ?_
                      refine xCode ?_
                      refine cRet ?_
                      refine rLeave hD ?_
                      exact lvRet (rs := [.tmp 8]) rfl (.t .z .n) () rfl .nil
                    · refine lRdG rfl .z (decide_eq_false h83) (dMove (.t (.s (.s (.s (.s (.s (.s .z)))))))) rfl rfl ?_
                      refine lCallG rfl (.s .z) (decide_eq_false h83) fok_9 (.c (.t .z) .n) (screen_Screen_Plane_c o74.1 x8.1.1 x75.1 x75.2) (.c (.s (.s (.s (.s (.s .z))))) (.c (.s (.s (.s (.s (.s .z))))) (.c (.s (.s (.s (.s (.s .z))))) .n))) rfl rfl fun o84 x85 h86 => ?_
                      refine lRdG rfl (.s (.s .z)) (decide_eq_false h83) (dMove (.t (.s (.s (.s (.s (.s (.s (.s .z))))))))) rfl rfl ?_
                      refine lCallG rfl (.s (.s (.s .z))) (decide_eq_false h83) fok_9 (.c (.t .z) .n) (screen_Screen_Plane_c o77.1 x65.1.1 x78.1 x78.2) (.c (.s (.s (.s (.s (.s .z))))) (.c (.s (.s (.s (.s (.s .z))))) (.c (.s (.s (.s (.s (.s .z))))) .n))) rfl rfl fun o87 x88 h89 => ?_
                      refine lCallG rfl (.s (.s (.s (.s .z)))) (decide_eq_false h83) fok_15 (.c (.t (.s (.s .z))) (.c (.t .z) .n)) (plane_Same_c K o74.1.f_p o77.1.f_p x75.1 x75.2 x78.1 x78.2) (.c (.s (.s (.s (.s .z)))) (.c (.s (.s (.s (.s .z)))) (.c (.s .z) (.c (.s .z) .n)))) rfl rfl fun o90 x91 h92 => ?_
                      refine lRdG rfl (.s (.s (.s (.s (.s .z))))) (decide_eq_false h83) (dMove (.t .z)) rfl rfl ?_
                      refine lCase (fun h93 => ?_) (fun h93 => ?_)
                      · refine lRdG rfl .z h93 (dMove (.t (.s (.s (.s (.s (.s (.s (.s (.s (.s (.s (.s (.s .z)))))))))))))) rfl rfl ?_
                        refine lCallG rfl (.s .z) h93 fok_11 (.c (.t .z) .n) (screen_Screen_Other_c o74.1 x8.1.1 x75.1 x75.2) (.c (.s (.s (.s (.s (.s .z))))) (.c .z (.c .z .n))) rfl rfl fun o94 x95 h96 => ?_
                        refine lRdG rfl (.s (.s .z)) h93 (dNot (.t .z)) rfl rfl ?_
                        refine lRdG rfl (.s (.s (.s (.s (.s (.s (.s (.s (.s .z))))))))) (decide_eq_false h83) (dPickT (.t (.s (.s (.s .z)))) h93 (.t .z)) rfl rfl ?_
                        refine lRd (dPickF (.t (.s (.s (.s (.s (.s (.s (.s (.s (.s (.s .z))))))))))) (decide_eq_false h83) (.t .z)) rfl rfl ?_
                        refine lRdK (dAssign (.t .z)) (.k (.k (.k (.k (.k (.k (.k (.k (.k (.k (.k (.k (.k (.k (.k (.k (.k (.k (.d (Keep.refl _)))))))))))))))))))) rfl rfl ?_
                        refine lKeep (.k .n) ?_
                        refine lNil ?_
                        refine xCode ?_
                        refine cRet ?_
                        refine rLeave hD ?_
                        exact lvRet (rs := [.tmp 8]) rfl (.t .z .n) () rfl .nil
                      · refine lPass rfl .z (nbT (Bool.eq_false_iff.mpr h93)) rfl ?_
                        refine lPass rfl .z (nbT (Bool.eq_false_iff.mpr h93)) rfl ?_
                        refine lPass rfl .z (nbT (Bool.eq_false_iff.mpr h93)) rfl ?_
                        refine lRdG rfl (.s (.s (.s (.s (.s (.s .z)))))) (decide_eq_false h83) (dPickF (.t .z) (Bool.eq_false_iff.mpr h93) (.c rfl)) rfl rfl ?_
                        refine lRd (dPickF (.t (.s (.s (.s (.s (.s (.s (.s .z)))))))) (decide_eq_false h83) (.t .z)) rfl rfl ?_
                        refine lRdK (dAssign (.t .z)) (.k (.k (.k (.k (.k (.k (.k (.k (.k (.k (.k (.k (.k (.k (.k (.d (Keep.refl _))))))))))))))))) rfl rfl ?_
                        refine lKeep (.k .n) ?_
                        refine lNil ?_
                        refine xCode ?_
                        refine cRet ?_
                        refine rLeave hD ?_
                        exact lvRet (rs := [.tmp 8]) rfl (.t .z .n) () rfl .nil
                · refine lRd (dMove (.t .z)) rfl rfl ?_
                  refine lRd (dExtract (.t .z) rfl) rfl rfl ?_
                  refine lRd (dExtract (.t (.s .z)) rfl) rfl rfl ?_
                  refine lRd (dAssign (.t (.s .z))) rfl rfl ?_
                  refine lRdN (dAssign (.t (.s .z))) rfl ?_
                  refine lKeep (.k (.d (.d (.d (.d (.d (.d (.d (.k (.k (.d (.d (.k .n))))))))))))) ?_
                  refine lNil ?_
                  refine xCode ?_
                  refine cSeq ?_
                  refine cRegion ?_
                  refine lCh (cBuildSlice (te := 5) (k := kB) (css := [[vB (245 : UInt8)]]) (xs := ([(245 : UInt8)] : List UInt8)) und_34 siz_5 zer_5 rfl (by decide) rfl (.c (.c (v' := vB 245) rfl) .n) rfl (fun zs h => match zs, h with | [_], _ => rfl) rfl (fun _ _ _ => (.cons rfl .nil))) rfl rfl fun b97 => ?_
                  refine lRd (dMove (.t (.s (.s (.s (.s .z)))))) rfl rfl ?_
                  refine lBind fun zs98 h99 => ?_
                  refine lCh (cAppend (xs := ([(245 : UInt8)] : List UInt8)) (ys := a3) .z (srcRo (.s (.s (.s (.s (.s (.s (.s (.s (.s (.s (.s (.s (.s .z)))))))))))))) (.t (.s .z)) (.t .z) und_34 und_34 rfl inf_5 rfl (by decide) h99) rfl rfl fun v100 => ?_
                  refine lRd (dAssign (.t .z)) rfl rfl ?_
                  refine lKeep (.k (.d (.d (.d (.k (.k (.k (.k .n)))))))) ?_
                  refine lNil ?_
                  refine xCode ?_
                  refine cSeq ?_
                  refine cRegion ?_
                  refine lRd (dMove (.t (.s (.s .z)))) rfl rfl ?_
                  refine lRd (dMove (.t (.s .z))) rfl rfl ?_
                  refine lSt (SX.freeze Upd.z) ?_
                  refine lCall fok_8 (.c (.t (.s .z)) (.c (.t .z) .n)) (screen_Screen_Run_c K o46.1 zs98 x8.1.1 x47.1 x47.2 v100) (.c (.s (.s .z)) (.c (.s (.s .z)) (.c (.s (.s .z)) (.r .z .n)))) rfl rfl fun o101 x102 h103 => ?_
                  refine lRd (dMove (.t (.s (.s (.s (.s .z)))))) rfl rfl ?_
                  refine lRd (dMove (.t (.s (.s (.s (.s .z)))))) rfl rfl ?_
                  exact lStuck
    · refine lRd (dMove (.t .z)) rfl rfl ?_
      refine lRd (dExtract (.t .z) rfl) rfl rfl ?_
      refine lRd (dExtract (.t (.s .z)) rfl) rfl rfl ?_
      refine lRd (dExtract (.t (.s (.s .z))) rfl) rfl rfl ?_
      refine lCh (cAlloc (cs := [.int .i64 0, .int .i64 0, .int .i64 0, .int .i64 0, .int .i64 0, .int .i64 0, .slice none 0 0, .int .i64 0, .bool false]) zer_31 rfl) rfl rfl fun b104 => ?_
      refine lRd (dAssign (.t (.s (.s (.s .z))))) rfl rfl ?_
      refine lFact (oneRo (.s .z)) fun h105 => ?_
      refine lChU (uStoreA (us := [.int .i64 o10.1.f_Plain.f_Rows, .int .i64 o10.1.f_Plain.f_Cols, .int .i64 o10.1.f_More.f_Rows, .int .i64 o10.1.f_More.f_Cols, .int .i64 o10.1.f_P.f_Size.f_Rows, .int .i64 o10.1.f_P.f_Size.f_Cols, x11.2, .int .i64 o10.1.f_P.f_Cursor, .bool o10.1.f_Other]) (cs' := [.int .i64 o10.1.f_Plain.f_Rows, .int .i64 o10.1.f_Plain.f_Cols, .int .i64 o10.1.f_More.f_Rows, .int .i64 o10.1.f_More.f_Cols, .int .i64 o10.1.f_P.f_Size.f_Rows, .int .i64 o10.1.f_P.f_Size.f_Cols, x11.2, .int .i64 o10.1.f_P.f_Cursor, .bool o10.1.f_Other]) .z siz_31 rfl (by intro u hu; simp only [List.mem_cons, List.not_mem_nil, or_false] at hu; rcases hu with rfl | rfl | rfl | rfl | rfl | rfl | rfl | rfl | rfl <;> first | rfl | assumption) rfl (by simp) (.t (.s .z)) (.t (.s (.s (.s .z))))) ?_
      refine lRd (dAssign (.t (.s (.s .z)))) rfl rfl ?_
      refine lKeep (.k (.k (.d (.d (.d (.d (.d (.d (.d (.d (.d (.k (.k (.k (.k (.k .n)))))))))))))))) ?_
      refine lNil ?_
      refine xCode ?_
      refine cSeq ?_
      refine cSeq ?_
      refine cJoin (S := Bool) (X := Unit) (fun (s : Bool) (x : Unit) => [(42, .bool s), (9, .pointer none), (8, .bool false), (5, .pointer (some ⟨b2, 0, none⟩)), (4, .pointer (some ⟨b1, 0, none⟩)), (2, v2_0), (3, v3_0)]) (fun (s : Bool) (x : Unit) => [.blk b104 [.int .i64 o10.1.f_Plain.f_Rows, .int .i64 o10.1.f_Plain.f_Cols, .int .i64 o10.1.f_More.f_Rows, .int .i64 o10.1.f_More.f_Cols, .int .i64 o10.1.f_P.f_Size.f_Rows, .int .i64 o10.1.f_P.f_Size.f_Cols, x11.2, .int .i64 o10.1.f_P.f_Cursor, .bool o10.1.f_Other] 31, .ro (kSl k_api_Cell) [x11.2] o10.1.f_P.f_Cells, .blk b2 [.int .i64 a1.f_Rows, .int .i64 a1.f_Cols] 23, .blk b1 [.int .i64 a0.f_Rows, .int .i64 a0.f_Cols] 23, .ro (kSl (kSl kB)) [v2_0] a2, .ro (kSl kB) [v3_0] a3]) ?_ (fun s108 x109 => ?_)
      · refine cRegion ?_
        refine lRd (dMove (.t .z)) rfl rfl ?_
        refine lRd (dNot (.t .z)) rfl rfl ?_
        refine lRd (dMove (.t .z)) rfl rfl ?_
        refine lCase (fun h106 => ?_) (fun h106 => ?_)
        · refine lPass rfl .z (nbF h106) rfl ?_
          refine lPass rfl .z (nbF h106) rfl ?_
          refine lPass rfl .z (nbF h106) rfl ?_
          refine lRd (dPickT (.t .z) h106 (.c rfl)) rfl rfl ?_
          refine lRd (dMove (.t .z)) rfl rfl ?_
          refine lPass rfl .z (nbF rfl) rfl ?_
          refine lPass rfl .z (nbF rfl) rfl ?_
          refine lPass rfl .z (nbF rfl) rfl ?_
          refine lRd (dPickT (.t .z) rfl (.c rfl)) rfl rfl ?_
          refine lKeep (.k (.d (.d (.d (.d (.d (.d (.k (.k (.k (.k (.k (.k .n))))))))))))) ?_
          refine lNil ?_
          exact xJoin true () (.c .z (.c (.s .z) (.c (.s (.s .z)) (.c (.s (.s (.s .z))) (.c (.s (.s (.s (.s .z)))) (.c (.s (.s (.s (.s (.s .z))))) (.c (.s (.s (.s (.s (.s (.s .z)))))) .n))))))) (.c .z (.c .z (.c .z (.c .z (.c .z (.c .z .nil))))))
        · refine lRdG rfl .z (Bool.eq_false_iff.mpr h106) (dMove (.t (.s (.s (.s (.s (.s (.s (.s (.s .z)))))))))) rfl rfl ?_
          refine lRdG rfl (.s .z) (Bool.eq_false_iff.mpr h106) (dLen (at_ := #[24]) (slRo (.s (.s (.s (.s .z))))) rfl und_24 (.t .z)) rfl rfl ?_
          refine lRdG rfl (.s (.s .z)) (Bool.eq_false_iff.mpr h106) (dGt (.t .z) (.c rfl)) rfl rfl ?_
          refine lRd (dPickF (.t (.s (.s (.s .z)))) (Bool.eq_false_iff.mpr h106) (.t .z)) rfl rfl ?_
          refine lRd (dMove (.t .z)) rfl rfl ?_
          refine lCase (fun h107 => ?_) (fun h107 => ?_)
          · refine lPass rfl .z (nbF (decide_eq_true h107)) rfl ?_
            refine lPass rfl .z (nbF (decide_eq_true h107)) rfl ?_
            refine lPass rfl .z (nbF (decide_eq_true h107)) rfl ?_
            refine lRd (dPickT (.t .z) (decide_eq_true h107) (.c rfl)) rfl rfl ?_
            refine lKeep (.k (.d (.d (.d (.d (.d (.d (.d (.d (.d (.k (.k (.k (.k (.k (.k .n)))))))))))))))) ?_
            refine lNil ?_
            exact xJoin true () (.c .z (.c (.s .z) (.c (.s (.s .z)) (.c (.s (.s (.s .z))) (.c (.s (.s (.s (.s .z)))) (.c (.s (.s (.s (.s (.s .z))))) (.c (.s (.s (.s (.s (.s (.s .z)))))) .n))))))) (.c .z (.c .z (.c .z (.c .z (.c .z (.c .z .nil))))))
          · refine lRdG rfl .z (decide_eq_false h107) (dMove (.t (.s (.s (.s (.s (.s (.s (.s (.s (.s (.s (.s (.s (.s (.s .z)))))))))))))))) rfl rfl ?_
            refine lRdG rfl (.s .z) (decide_eq_false h107) (dLen (at_ := #[34]) (slRo (.s (.s (.s (.s (.s .z)))))) rfl und_34 (.t .z)) rfl rfl ?_
            refine lRdG rfl (.s (.s .z)) (decide_eq_false h107) (dGt (.t .z) (.c rfl)) rfl rfl ?_
            refine lRd (dPickF (.t (.s (.s (.s .z)))) (decide_eq_false h107) (.t .z)) rfl rfl ?_
            refine lKeep (.k (.d (.d (.d (.d (.d (.d (.d (.d (.d (.d (.d (.d (.k (.k (.k (.k (.k (.k .n))))))))))))))))))) ?_
            refine lNil ?_
            exact xJoin (decide ((a3.length : Int) > 200)) () (.c .z (.c (.s .z) (.c (.s (.s .z)) (.c (.s (.s (.s .z))) (.c (.s (.s (.s (.s .z)))) (.c (.s (.s (.s (.s (.s .z))))) (.c (.s (.s (.s (.s (.s (.s .z)))))) .n))))))) (.c .z (.c .z (.c .z (.c .z (.c .z (.c .z .nil))))))
      · refine xCode ?_
        refine cCondB (.t .z) (fun h110 => ?_) (fun h110 => ?_)
        · refine cSeq ?_
          refine cRegion ?_
          refine lRdK (dAssign (.c rfl)) (.k (.k (.d (Keep.refl _)))) rfl rfl ?_
          refine lKeep (.k (.d (.k (.k (.k (.k (.k .n))))))) ?_
          refine lNil ?_
          refine xCode ?_
          refine cRet ?_
          refine rLeave hD ?_
          exact lvRet (rs := [.tmp 8]) rfl (.t .z .n) () rfl .nil
        · refine cSkip ?_
          refine xCode ?_
          refine cSeq ?_
          refine cSeq ?_
          refine cRegion ?_
          refine lRd (dMove (.t (.s (.s (.s (.s (.s .z))))))) rfl rfl ?_
          refine lRd (dLen (at_ := #[24]) (slRo (.s (.s (.s (.s .z))))) rfl und_24 (.t .z)) rfl rfl ?_
          refine lRd (dMove (.c rfl)) rfl rfl ?_
          refine lKeep (.k (.k (.k (.d (.k (.k (.k (.k (.d (.k .n)))))))))) ?_
          refine lNil ?_
          refine xCode ?_
          refine cLoopR (S := Unit) (X := Unit) (S' := Unit) (X' := Unit) (law18_ScreenErases_l2 K a2) (fun (s : Unit) (x : Unit) => [(45, .int .i64 0), (44, .int .i64 (a2.length : Int)), (43, v2_0), (9, .pointer none), (8, .bool false), (5, .pointer (some ⟨b2, 0, none⟩)), (4, .pointer (some ⟨b1, 0, none⟩)), (3, v3_0)]) (fun (s : Unit) (x : Unit) => [.blk b104 [.int .i64 o10.1.f_Plain.f_Rows, .int .i64 o10.1.f_Plain.f_Cols, .int .i64 o10.1.f_More.f_Rows, .int .i64 o10.1.f_More.f_Cols, .int .i64 o10.1.f_P.f_Size.f_Rows, .int .i64 o10.1.f_P.f_Size.f_Cols, x11.2, .int .i64 o10.1.f_P.f_Cursor, .bool o10.1.f_Other] 31, .ro (kSl k_api_Cell) [x11.2] o10.1.f_P.f_Cells, .blk b2 [.int .i64 a1.f_Rows, .int .i64 a1.f_Cols] 23, .blk b1 [.int .i64 a0.f_Rows, .int .i64 a0.f_Cols] 23, .ro (kSl (kSl kB)) [v2_0] a2, .ro (kSl kB) [v3_0] a3]) (fun (s : Unit) (x : Unit) => [(9, .pointer none), (8, .bool false), (5, .pointer (some ⟨b2, 0, none⟩)), (4, .pointer (some ⟨b1, 0, none⟩)), (3, v3_0)]) (fun (s : Unit) (x : Unit) => [.blk b104 [.int .i64 o10.1.f_Plain.f_Rows, .int .i64 o10.1.f_Plain.f_Cols, .int .i64 o10.1.f_More.f_Rows, .int .i64 o10.1.f_More.f_Cols, .int .i64 o10.1.f_P.f_Size.f_Rows, .int .i64 o10.1.f_P.f_Size.f_Cols, x11.2, .int .i64 o10.1.f_P.f_Cursor, .bool o10.1.f_Other] 31, .ro (kSl k_api_Cell) [x11.2] o10.1.f_P.f_Cells, .blk b2 [.int .i64 a1.f_Rows, .int .i64 a1.f_Cols] 23, .blk b1 [.int .i64 a0.f_Rows, .int .i64 a0.f_Cols] 23, .ro (kSl (kSl kB)) [v2_0] a2, .ro (kSl kB) [v3_0] a3]) K () () (.c .z (.c (.s .z) (.c (.s (.s .z)) (.c (.s (.s (.s .z))) (.c (.s (.s (.s (.s .z)))) (.c (.s (.s (.s (.s (.s .z))))) (.c (.s (.s (.s (.s (.s (.s .z)))))) (.c (.s (.s (.s (.s (.s (.s (.s .z))))))) .n)))))))) (.c .z (.c .z (.c .z (.c .z (.c .z (.c .z .nil)))))) (fun _ => rfl) (fun n113 I114 h115 s111 x112 => ?_) (fun s122 x123 => ?_)
          · rw [law18_ScreenErases_l2]
            refine cSeq ?_
            refine cRegion ?_
            refine lRd (dLt (.t .z) (.t (.s .z))) rfl rfl ?_
            refine lNil ?_
            refine xCode ?_
            refine cSeq ?_
            refine cCond (.t .z) (fun h116 => ?_) (fun h116 => ?_)
            · refine cSkip ?_
              refine xCode ?_
              refine cSeq ?_
              refine cBlock ?_
              refine cSeq ?_
              refine cRegion ?_
              refine lIx fun y117 h118 h119 => ?_
              refine lRd (dIxAddr (slRo (.s (.s (.s (.s .z))))) und_24 siz_34 (.t (.s (.s (.s .z)))) (.t (.s .z)) h118 h119) rfl rfl ?_
              refine lCh (cLoadRoS (k := kB) (.s (.s (.s (.s .z)))) agg_34 (.t .z) h119) rfl rfl fun v120 => ?_
              refine lRd (dAssign (.t .z)) rfl rfl ?_
              refine lNil ?_
              refine xCode ?_
              refine cSeq ?_
              refine cSeq ?_
              refine cRegion ?_
              refine lRd (dMove (.t .z)) rfl rfl ?_
              refine lRd (dLen (at_ := #[34]) (slRo .z) rfl und_34 (.t .z)) rfl rfl ?_
              refine lRd (dGt (.t .z) (.c rfl)) rfl rfl ?_
              refine lNil ?_
              refine xCode ?_
              refine cCond (.t .z) (fun h121 => ?_) (fun h121 => ?_)
              · refine cSeq ?_
                refine cRegion ?_
                refine lRdK (dAssign (.c rfl)) (.k (.k (.k (.k (.k (.k (.k (.k (.k (.k (.k (.d (Keep.refl _))))))))))))) rfl rfl ?_
                refine lNil ?_
                refine xCode ?_
                refine cRet ?_
                refine rInner ?_
                refine rLeave hD ?_
                exact lvRet (rs := [.tmp 8]) rfl (.t .z .n) () rfl .nil
              · refine cSkip ?_
                refine xCode ?_
                refine cSeq ?_
                refine cRegion ?_
                refine lRd (dMove (.t (.s (.s (.s (.s (.s (.s (.s (.s (.s (.s .z)))))))))))) rfl rfl ?_
                refine lRd (dMove (.t (.s (.s (.s (.s .z)))))) rfl rfl ?_
                exact lStuck
            · refine cExit ?_
              refine xOver ?_
              refine xOverF ?_
              exact xBreakR () () (.c (.s (.s (.s (.s .z)))) (.c (.s (.s (.s (.s (.s .z))))) (.c (.s (.s (.s (.s (.s (.s .z)))))) (.c (.s (.s (.s (.s (.s (.s (.s .z))))))) (.c (.s (.s (.s (.s (.s (.s (.s (.s .z)))))))) .n))))) (.c .z (.c .z (.c .z (.c .z (.c .z (.c .z .nil))))))
          · refine xCode ?_
            refine cSeq ?_
            refine cRegion ?_
            refine lRd (dMove (.t .z)) rfl rfl ?_
            exact lStuck

-- greenscreen/greenscreenlaw18.ScreenFields
def law18_ScreenFields_l1 (K : Nat) (a2 : (List (List UInt8))) : Nat → (Int × Bool × (List UInt8) × Int × Int × Int × Int × Int × Int × Int × (List api_Cell) × Int) → Option (Sum (Bool × (List UInt8) × Int × Int × Int × Int × Int × Int × Int × (List api_Cell) × Int) (Bool))
  | 0, _ => none
  | n + 1, s22 => (if s22.1 < (a2.length : Int) then (ix a2 s22.1).bind fun y28 => (if (y28.length : Int) > 100 then some (Sum.inr true) else (app ([(64 : UInt8), (0 : UInt8), (241 : UInt8), (192 : UInt8)] : List UInt8) y28).bind fun zs34 => (app s22.2.2.1 ([toB (Int.fdiv (w64 ((zs34.length : Int) + 2)) (2 ^ (min (Int.toNat 8) 64))), toB (w64 ((zs34.length : Int) + 2))] : List UInt8)).bind fun zs38 => (app zs38 zs34).bind fun zs41 => (if (!s22.2.1) = true then (app ([(241 : UInt8), (192 : UInt8)] : List UInt8) y28).bind fun zs46 => (screen_Screen_Run_m K (⟨(⟨s22.2.2.2.1, s22.2.2.2.2.1⟩ : api_Size), (⟨s22.2.2.2.2.2.1, s22.2.2.2.2.2.2.1⟩ : api_Size), s22.2.2.2.2.2.2.2.1, (⟨(⟨s22.2.2.2.2.2.2.2.2.1, s22.2.2.2.2.2.2.2.2.2.1⟩ : api_Size), s22.2.2.2.2.2.2.2.2.2.2.1, s22.2.2.2.2.2.2.2.2.2.2.2⟩ : plane_Plane)⟩ : screen_Screen) zs46).bind fun o49 => (law18_ScreenFields_l1 K a2 n) (w64 (s22.1 + 1), (decide (o49.2.f_Err ≠ 0)), zs41, o49.1.f_sizes_0.f_Rows, o49.1.f_sizes_0.f_Cols, o49.1.f_sizes_1.f_Rows, o49.1.f_sizes_1.f_Cols, o49.1.f_which, o49.1.f_p.f_size.f_Rows, o49.1.f_p.f_size.f_Cols, o49.1.f_p.f_cells, o49.1.f_p.f_cursor) else (law18_ScreenFields_l1 K a2 n) (w64 (s22.1 + 1), s22.2.1, zs41, s22.2.2.2.1, s22.2.2.2.2.1, s22.2.2.2.2.2.1, s22.2.2.2.2.2.2.1, s22.2.2.2.2.2.2.2.1, s22.2.2.2.2.2.2.2.2.1, s22.2.2.2.2.2.2.2.2.2.1, s22.2.2.2.2.2.2.2.2.2.2.1, s22.2.2.2.2.2.2.2.2.2.2.2))) else some (Sum.inl (s22.2.1, s22.2.2.1, s22.2.2.2.1, s22.2.2.2.2.1, s22.2.2.2.2.2.1, s22.2.2.2.2.2.2.1, s22.2.2.2.2.2.2.2.1, s22.2.2.2.2.2.2.2.2.1, s22.2.2.2.2.2.2.2.2.2.1, s22.2.2.2.2.2.2.2.2.2.2.1, s22.2.2.2.2.2.2.2.2.2.2.2)))
def law18_ScreenFields_m (K : Nat) (a0 : api_Size) (a1 : api_Size) (a2 : (List (List UInt8))) : Option (Bool) := (law18_alive_m K).bind fun o3 => (if (!o3) = true then some false else (law18_made_m a0 a1).bind (onE (fun (o7 : screen_Screen × ref18_Screen) => (some ()).bind fun (s15 : Unit) => (if (a2.length : Int) > 5 then some true else (screen_Screen_Clone_m o7.1).bind fun o18 => (law18_ScreenFields_l1 K a2 K (0, false, ([(243 : UInt8)] : List UInt8), o18.f_sizes_0.f_Rows, o18.f_sizes_0.f_Cols, o18.f_sizes_1.f_Rows, o18.f_sizes_1.f_Cols, o18.f_which, o18.f_p.f_size.f_Rows, o18.f_p.f_size.f_Cols, o18.f_p.f_cells, o18.f_p.f_cursor)).bind (onS fun (s53 : Bool × (List UInt8) × Int × Int × Int × Int × Int × Int × Int × (List api_Cell) × Int) => (screen_Screen_Clone_m o7.1).bind fun o55 => (screen_Screen_Run_m K o7.1 s53.2.1).bind fun o58 => (screen_Screen_Run_m K o55 s53.2.1).bind fun o61 => (if (decide (o58.2.f_Err ≠ 0)) = s53.1 then (if o58.2 = o61.2 then (screen_Screen_Plane_m o58.1).bind fun o68 => (screen_Screen_Plane_m (⟨(⟨s53.2.2.1, s53.2.2.2.1⟩ : api_Size), (⟨s53.2.2.2.2.1, s53.2.2.2.2.2.1⟩ : api_Size), s53.2.2.2.2.2.2.1, (⟨(⟨s53.2.2.2.2.2.2.2.1, s53.2.2.2.2.2.2.2.2.1⟩ : api_Size), s53.2.2.2.2.2.2.2.2.2.1, s53.2.2.2.2.2.2.2.2.2.2⟩ : plane_Plane)⟩ : screen_Screen)).bind fun o71 => (plane_Same_m K o58.1.f_p (⟨(⟨s53.2.2.2.2.2.2.2.1, s53.2.2.2.2.2.2.2.2.1⟩ : api_Size), s53.2.2.2.2.2.2.2.2.2.1, s53.2.2.2.2.2.2.2.2.2.2⟩ : plane_Plane)).bind fun o74 => (if o74 = true then (screen_Screen_Plane_m o58.1).bind fun o78 => (screen_Screen_Plane_m o61.1).bind fun o81 => (plane_Same_m K o58.1.f_p o61.1.f_p).bind fun o84 => some o84 else some false) else some false) else some false)))) (fun (o10 : ref18_Screen × Bool) => ((if (!o10.2) = true then some true else some (decide ((a2.length : Int) > 5)))).bind fun (s90 : Bool) => (if s90 = true then some true else none))))
theorem law18_ScreenFields_c (K : Nat) (a0 : api_Size) (a1 : api_Size) (a2 : (List (List UInt8))) (v2_0 : Value) : Con Try.prog 5 #[.agg #[.int .i64 a0.f_Rows, .int .i64 a0.f_Cols], .agg #[.int .i64 a1.f_Rows, .int .i64 a1.f_Cols], v2_0] [.ro (kSl (kSl kB)) [v2_0] a2] (law18_ScreenFields_m K a0 a1 a2) (fun (o : Bool) (x : Unit) => .bool o) (fun (o : Bool) (x : Unit) => []) := by
  unfold law18_ScreenFields_m
  refine con (args := [.agg #[.int .i64 a0.f_Rows, .int .i64 a0.f_Cols], .agg #[.int .i64 a1.f_Rows, .int .i64 a1.f_Cols], v2_0]) Try.func5 rfl 108 rfl (.c (.c (.c .n))) rfl fun c hD hrn => ?_
  refine cSeq ?_
  refine cRegion ?_
  refine lCh (cBox (cs := [.int .i64 a0.f_Rows, .int .i64 a0.f_Cols]) (.t .z) rfl) rfl rfl fun b1 => ?_
  refine lCh (cBox (cs := [.int .i64 a1.f_Rows, .int .i64 a1.f_Cols]) (.t (.s (.s .z))) rfl) rfl rfl fun b2 => ?_
  refine lRd (dAssign (.c rfl)) rfl rfl ?_
  refine lKeep (.k (.k (.k (.d (.d (.k .n)))))) ?_
  refine lNil ?_
  refine xCode ?_
  refine cSeq ?_
  refine cSeq ?_
  refine cRegion ?_
  refine lCall fok_6 .n (law18_alive_c K) .n rfl rfl fun o3 x4 h5 => ?_
  refine lRd (dNot (.t .z)) rfl rfl ?_
  refine lKeep (.k (.d (.k (.k (.k (.k .n)))))) ?_
  refine lNil ?_
  refine xCode ?_
  refine cCondB (.t .z) (fun h6 => ?_) (fun h6 => ?_)
  · refine cSeq ?_
    refine cRegion ?_
    refine lRdK (dAssign (.c rfl)) (.k (.d (Keep.refl _))) rfl rfl ?_
    refine lKeep (.k (.d (.k (.k (.k .n))))) ?_
    refine lNil ?_
    refine xCode ?_
    refine cRet ?_
    refine rLeave hD ?_
    exact lvRet (rs := [.tmp 6]) rfl (.t .z .n) () rfl .nil
  · refine cSkip ?_
    refine xCode ?_
    refine cSeq ?_
    refine cRegion ?_
    refine lRd (dLoadA (us := [.int .i64 a0.f_Rows, .int .i64 a0.f_Cols]) (.s .z) agg_23 siz_23 rfl (.t (.s (.s (.s .z)))) rfl) rfl rfl ?_
    refine lRd (dLoadA (us := [.int .i64 a1.f_Rows, .int .i64 a1.f_Cols]) .z agg_23 siz_23 rfl (.t (.s (.s (.s .z)))) rfl) rfl rfl ?_
    refine lCallS fok_7 (.c (.t (.s .z)) (.c (.t .z) .n)) (law18_made_c a0 a1) .n rfl rfl (fun o7 x8 h9 => ?_) (fun o10 x11 h12 => ?_)
    · refine lRd (dMove (.t .z)) rfl rfl ?_
      refine lRd (dExtract (.t .z) rfl) rfl rfl ?_
      refine lRd (dExtract (.t (.s .z)) rfl) rfl rfl ?_
      refine lRd (dExtract (.t (.s (.s .z))) rfl) rfl rfl ?_
      refine lCh (cAlloc (cs := [.int .i64 0, .int .i64 0, .int .i64 0, .int .i64 0, .int .i64 0, .int .i64 0, .slice none 0 0, .int .i64 0, .bool false]) zer_31 rfl) rfl rfl fun b13 => ?_
      refine lRd (dAssign (.t (.s (.s (.s .z))))) rfl rfl ?_
      refine lFact (oneRo (.s (.s (.s (.s .z))))) fun h14 => ?_
      refine lChU (uStoreA (us := [.int .i64 o7.2.f_Plain.f_Rows, .int .i64 o7.2.f_Plain.f_Cols, .int .i64 o7.2.f_More.f_Rows, .int .i64 o7.2.f_More.f_Cols, .int .i64 o7.2.f_P.f_Size.f_Rows, .int .i64 o7.2.f_P.f_Size.f_Cols, x8.1.2.2.2, .int .i64 o7.2.f_P.f_Cursor, .bool o7.2.f_Other]) (cs' := [.int .i64 o7.2.f_Plain.f_Rows, .int .i64 o7.2.f_Plain.f_Cols, .int .i64 o7.2.f_More.f_Rows, .int .i64 o7.2.f_More.f_Cols, .int .i64 o7.2.f_P.f_Size.f_Rows, .int .i64 o7.2.f_P.f_Size.f_Cols, x8.1.2.2.2, .int .i64 o7.2.f_P.f_Cursor, .bool o7.2.f_Other]) .z siz_31 rfl (by intro u hu; simp only [List.mem_cons, List.not_mem_nil, or_false] at hu; rcases hu with rfl | rfl | rfl | rfl | rfl | rfl | rfl | rfl | rfl <;> first | rfl | assumption) rfl (by simp) (.t (.s .z)) (.t (.s (.s (.s .z))))) ?_
      refine lRd (dAssign (.t (.s (.s .z)))) rfl rfl ?_
      refine lKeep (.k (.k (.d (.d (.d (.d (.d (.d (.d (.d (.d (.k (.d (.d (.k .n))))))))))))))) ?_
      refine lNil ?_
      refine xCode ?_
      refine cSeq ?_
      refine cSeq ?_
      refine cJoin (S := Unit) (X := Unit) (fun (s : Unit) (x : Unit) => [(36, .bool (decide ((a2.length : Int) > 5))), (7, .pointer (some ⟨x8.1.1, 0, none⟩)), (6, .bool false), (2, v2_0)]) (fun (s : Unit) (x : Unit) => [.blk b13 [.int .i64 o7.2.f_Plain.f_Rows, .int .i64 o7.2.f_Plain.f_Cols, .int .i64 o7.2.f_More.f_Rows, .int .i64 o7.2.f_More.f_Cols, .int .i64 o7.2.f_P.f_Size.f_Rows, .int .i64 o7.2.f_P.f_Size.f_Cols, x8.1.2.2.2, .int .i64 o7.2.f_P.f_Cursor, .bool o7.2.f_Other] 31, .blk x8.1.1 [.int .i64 o7.1.f_sizes_0.f_Rows, .int .i64 o7.1.f_sizes_0.f_Cols, .int .i64 o7.1.f_sizes_1.f_Rows, .int .i64 o7.1.f_sizes_1.f_Cols, .int .i64 o7.1.f_which, .pointer (some ⟨x8.1.2.1, 0, none⟩)] 64, .blk x8.1.2.1 [.int .i64 o7.1.f_p.f_size.f_Rows, .int .i64 o7.1.f_p.f_size.f_Cols, x8.1.2.2.1, .int .i64 o7.1.f_p.f_cursor] 66, .own x8.1.2.2.1 44 k_api_Cell o7.1.f_p.f_cells, .ro (kSl k_api_Cell) [x8.1.2.2.2] o7.2.f_P.f_Cells, .blk b2 [.int .i64 a1.f_Rows, .int .i64 a1.f_Cols] 23, .blk b1 [.int .i64 a0.f_Rows, .int .i64 a0.f_Cols] 23, .ro (kSl (kSl kB)) [v2_0] a2]) ?_ (fun s15 x16 => ?_)
      · refine cRegion ?_
        refine lRd (dMove (.t .z)) rfl rfl ?_
        refine lRd (dNot (.t .z)) rfl rfl ?_
        refine lRd (dMove (.t .z)) rfl rfl ?_
        refine lRdG rfl .z rfl (dMove (.t (.s (.s (.s (.s (.s (.s .z)))))))) rfl rfl ?_
        refine lRdG rfl (.s .z) rfl (dLen (at_ := #[24]) (slRo (.s (.s (.s (.s (.s (.s (.s .z)))))))) rfl und_24 (.t .z)) rfl rfl ?_
        refine lRdG rfl (.s (.s .z)) rfl (dGt (.t .z) (.c rfl)) rfl rfl ?_
        refine lRd (dPickF (.t (.s (.s (.s .z)))) rfl (.t .z)) rfl rfl ?_
        refine lKeep (.k (.d (.d (.d (.d (.d (.d (.d (.k (.k (.k .n))))))))))) ?_
        refine lNil ?_
        exact xJoin () () (.c .z (.c (.s .z) (.c (.s (.s .z)) (.c (.s (.s (.s .z))) .n)))) (.c .z (.c .z (.c .z (.c .z (.c .z (.c .z (.c .z (.c .z .nil))))))))
      · refine xCode ?_
        refine cCond (.t .z) (fun h17 => ?_) (fun h17 => ?_)
        · refine cSeq ?_
          refine cRegion ?_
          refine lRdK (dAssign (.c rfl)) (.k (.k (.d (Keep.refl _)))) rfl rfl ?_
          refine lKeep (.k (.d (.k (.k .n)))) ?_
          refine lNil ?_
          refine xCode ?_
          refine cRet ?_
          refine rLeave hD ?_
          exact lvRet (rs := [.tmp 6]) rfl (.t .z .n) () rfl .nil
        · refine cSkip ?_
          refine xCode ?_
          refine cSeq ?_
          refine cRegion ?_
          refine lRd (dMove (.t (.s .z))) rfl rfl ?_
          refine lCall fok_14 (.c (.t .z) .n) (screen_Screen_Clone_c o7.1 x8.1.1 x8.1.2.1 x8.1.2.2.1) (.c (.s .z) (.c (.s .z) (.c (.s .z) .n))) rfl rfl fun o18 x19 h20 => ?_
          refine lRd (dAssign (.t .z)) rfl rfl ?_
          refine lKeep (.k (.d (.d (.d (.k (.k (.k .n))))))) ?_
          refine lNil ?_
          refine xCode ?_
          refine cSeq ?_
          refine cRegion ?_
          refine lCh (cBuildSlice (te := 5) (k := kB) (css := [[vB (243 : UInt8)]]) (xs := ([(243 : UInt8)] : List UInt8)) und_34 siz_5 zer_5 rfl (by decide) rfl (.c (.c (v' := vB 243) rfl) .n) rfl (fun zs h => match zs, h with | [_], _ => rfl) rfl (fun _ _ _ => (.cons rfl .nil))) rfl rfl fun b21 => ?_
          refine lRd (dAssign (.t .z)) rfl rfl ?_
          refine lKeep (.k (.d (.k (.k (.k (.k .n)))))) ?_
          refine lNil ?_
          refine xCode ?_
          refine cSeq ?_
          refine cRegion ?_
          refine lRd (dAssign (.c rfl)) rfl rfl ?_
          refine lNil ?_
          refine xCode ?_
          refine cSeq ?_
          refine cSeq ?_
          refine cRegion ?_
          refine lRd (dMove (.t (.s (.s (.s (.s (.s .z))))))) rfl rfl ?_
          refine lRd (dLen (at_ := #[24]) (slRo (.s (.s (.s (.s (.s (.s (.s (.s (.s (.s (.s .z)))))))))))) rfl und_24 (.t .z)) rfl rfl ?_
          refine lRd (dMove (.c rfl)) rfl rfl ?_
          refine lKeep (.k (.k (.k (.k (.k (.k (.k (.k .n)))))))) ?_
          refine lNil ?_
          refine xCode ?_
          refine cLoopR (S := Int × Bool × (List UInt8) × Int × Int × Int × Int × Int × Int × Int × (List api_Cell) × Int) (X := Nat × Value × Value) (S' := Bool × (List UInt8) × Int × Int × Int × Int × Int × Int × Int × (List api_Cell) × Int) (X' := Nat × Value × Value) (law18_ScreenFields_l1 K a2) (fun (s : Int × Bool × (List UInt8) × Int × Int × Int × Int × Int × Int × Int × (List api_Cell) × Int) (x : Nat × Value × Value) => [(42, .int .i64 s.1), (41, .int .i64 (a2.length : Int)), (40, v2_0), (12, .bool s.2.1), (11, x.2.1), (10, .pointer (some ⟨x19.1, 0, none⟩)), (7, .pointer (some ⟨x8.1.1, 0, none⟩)), (6, .bool false)]) (fun (s : Int × Bool × (List UInt8) × Int × Int × Int × Int × Int × Int × Int × (List api_Cell) × Int) (x : Nat × Value × Value) => [.own x.2.1 5 kB s.2.2.1, .blk x8.1.1 [.int .i64 o7.1.f_sizes_0.f_Rows, .int .i64 o7.1.f_sizes_0.f_Cols, .int .i64 o7.1.f_sizes_1.f_Rows, .int .i64 o7.1.f_sizes_1.f_Cols, .int .i64 o7.1.f_which, .pointer (some ⟨x8.1.2.1, 0, none⟩)] 64, .blk x8.1.2.1 [.int .i64 o7.1.f_p.f_size.f_Rows, .int .i64 o7.1.f_p.f_size.f_Cols, x8.1.2.2.1, .int .i64 o7.1.f_p.f_cursor] 66, .own x8.1.2.2.1 44 k_api_Cell o7.1.f_p.f_cells, .blk x19.1 [.int .i64 s.2.2.2.1, .int .i64 s.2.2.2.2.1, .int .i64 s.2.2.2.2.2.1, .int .i64 s.2.2.2.2.2.2.1, .int .i64 s.2.2.2.2.2.2.2.1, .pointer (some ⟨x.1, 0, none⟩)] 64, .blk x.1 [.int .i64 s.2.2.2.2.2.2.2.2.1, .int .i64 s.2.2.2.2.2.2.2.2.2.1, x.2.2, .int .i64 s.2.2.2.2.2.2.2.2.2.2.2] 66, .own x.2.2 44 k_api_Cell s.2.2.2.2.2.2.2.2.2.2.1, .blk b13 [.int .i64 o7.2.f_Plain.f_Rows, .int .i64 o7.2.f_Plain.f_Cols, .int .i64 o7.2.f_More.f_Rows, .int .i64 o7.2.f_More.f_Cols, .int .i64 o7.2.f_P.f_Size.f_Rows, .int .i64 o7.2.f_P.f_Size.f_Cols, x8.1.2.2.2, .int .i64 o7.2.f_P.f_Cursor, .bool o7.2.f_Other] 31, .ro (kSl k_api_Cell) [x8.1.2.2.2] o7.2.f_P.f_Cells, .blk b2 [.int .i64 a1.f_Rows, .int .i64 a1.f_Cols] 23, .blk b1 [.int .i64 a0.f_Rows, .int .i64 a0.f_Cols] 23, .ro (kSl (kSl kB)) [v2_0] a2]) (fun (s : Bool × (List UInt8) × Int × Int × Int × Int × Int × Int × Int × (List api_Cell) × Int) (x : Nat × Value × Value) => [(12, .bool s.1), (11, x.2.1), (10, .pointer (some ⟨x19.1, 0, none⟩)), (7, .pointer (some ⟨x8.1.1, 0, none⟩)), (6, .bool false)]) (fun (s : Bool × (List UInt8) × Int × Int × Int × Int × Int × Int × Int × (List api_Cell) × Int) (x : Nat × Value × Value) => [.own x.2.1 5 kB s.2.1, .blk x8.1.1 [.int .i64 o7.1.f_sizes_0.f_Rows, .int .i64 o7.1.f_sizes_0.f_Cols, .int .i64 o7.1.f_sizes_1.f_Rows, .int .i64 o7.1.f_sizes_1.f_Cols, .int .i64 o7.1.f_which, .pointer (some ⟨x8.1.2.1, 0, none⟩)] 64, .blk x8.1.2.1 [.int .i64 o7.1.f_p.f_size.f_Rows, .int .i64 o7.1.f_p.f_size.f_Cols, x8.1.2.2.1, .int .i64 o7.1.f_p.f_cursor] 66, .own x8.1.2.2.1 44 k_api_Cell o7.1.f_p.f_cells, .blk x19.1 [.int .i64 s.2.2.1, .int .i64 s.2.2.2.1, .int .i64 s.2.2.2.2.1, .int .i64 s.2.2.2.2.2.1, .int .i64 s.2.2.2.2.2.2.1, .pointer (some ⟨x.1, 0, none⟩)] 64, .blk x.1 [.int .i64 s.2.2.2.2.2.2.2.1, .int .i64 s.2.2.2.2.2.2.2.2.1, x.2.2, .int .i64 s.2.2.2.2.2.2.2.2.2.2] 66, .own x.2.2 44 k_api_Cell s.2.2.2.2.2.2.2.2.2.1, .blk b13 [.int .i64 o7.2.f_Plain.f_Rows, .int .i64 o7.2.f_Plain.f_Cols, .int .i64 o7.2.f_More.f_Rows, .int .i64 o7.2.f_More.f_Cols, .int .i64 o7.2.f_P.f_Size.f_Rows, .int .i64 o7.2.f_P.f_Size.f_Cols, x8.1.2.2.2, .int .i64 o7.2.f_P.f_Cursor, .bool o7.2.f_Other] 31, .ro (kSl k_api_Cell) [x8.1.2.2.2] o7.2.f_P.f_Cells, .blk b2 [.int .i64 a1.f_Rows, .int .i64 a1.f_Cols] 23, .blk b1 [.int .i64 a0.f_Rows, .int .i64 a0.f_Cols] 23, .ro (kSl (kSl kB)) [v2_0] a2]) K (0, false, ([(243 : UInt8)] : List UInt8), o18.f_sizes_0.f_Rows, o18.f_sizes_0.f_Cols, o18.f_sizes_1.f_Rows, o18.f_sizes_1.f_Cols, o18.f_which, o18.f_p.f_size.f_Rows, o18.f_p.f_size.f_Cols, o18.f_p.f_cells, o18.f_p.f_cursor) (x19.2.1, .slice (some ⟨b21, 0, none⟩) 1 1, x19.2.2) (.c .z (.c (.s .z) (.c (.s (.s .z)) (.c (.s (.s (.s .z))) (.c (.s (.s (.s (.s .z)))) (.c (.s (.s (.s (.s (.s .z))))) (.c (.s (.s (.s (.s (.s (.s .z)))))) (.c (.s (.s (.s (.s (.s (.s (.s .z))))))) .n)))))))) (.c .z (.c .z (.c .z (.c .z (.c .z (.c .z (.c .z (.c .z (.c .z (.c .z (.c .z (.c .z .nil)))))))))))) (fun _ => rfl) (fun n24 I25 h26 s22 x23 => ?_) (fun s53 x54 => ?_)
          · rw [law18_ScreenFields_l1]
            refine cSeq ?_
            refine cRegion ?_
            refine lRd (dLt (.t .z) (.t (.s .z))) rfl rfl ?_
            refine lNil ?_
            refine xCode ?_
            refine cSeq ?_
            refine cCond (.t .z) (fun h27 => ?_) (fun h27 => ?_)
            · refine cSkip ?_
              refine xCode ?_
              refine cSeq ?_
              refine cBlock ?_
              refine cSeq ?_
              refine cRegion ?_
              refine lIx fun y28 h29 h30 => ?_
              refine lRd (dIxAddr (slRo (.s (.s (.s (.s (.s (.s (.s (.s (.s (.s (.s .z)))))))))))) und_24 siz_34 (.t (.s (.s (.s .z)))) (.t (.s .z)) h29 h30) rfl rfl ?_
              refine lCh (cLoadRoS (k := kB) (.s (.s (.s (.s (.s (.s (.s (.s (.s (.s (.s .z))))))))))) agg_34 (.t .z) h30) rfl rfl fun v31 => ?_
              refine lRd (dAssign (.t .z)) rfl rfl ?_
              refine lNil ?_
              refine xCode ?_
              refine cSeq ?_
              refine cSeq ?_
              refine cRegion ?_
              refine lRd (dMove (.t .z)) rfl rfl ?_
              refine lRd (dLen (at_ := #[34]) (slRo .z) rfl und_34 (.t .z)) rfl rfl ?_
              refine lRd (dGt (.t .z) (.c rfl)) rfl rfl ?_
              refine lNil ?_
              refine xCode ?_
              refine cCond (.t .z) (fun h32 => ?_) (fun h32 => ?_)
              · refine cSeq ?_
                refine cRegion ?_
                refine lRdK (dAssign (.c rfl)) (.k (.k (.k (.k (.k (.k (.k (.k (.k (.k (.k (.k (.k (.k (.d (Keep.refl _)))))))))))))))) rfl rfl ?_
                refine lNil ?_
                refine xCode ?_
                refine cRet ?_
                refine rInner ?_
                refine rLeave hD ?_
                exact lvRet (rs := [.tmp 6]) rfl (.t .z .n) () rfl .nil
              · refine cSkip ?_
                refine xCode ?_
                refine cSeq ?_
                refine cRegion ?_
                refine lCh (cBuildSlice (te := 5) (k := kB) (css := [[vB (64 : UInt8)], [vB (0 : UInt8)], [vB (241 : UInt8)], [vB (192 : UInt8)]]) (xs := ([(64 : UInt8), (0 : UInt8), (241 : UInt8), (192 : UInt8)] : List UInt8)) und_34 siz_5 zer_5 rfl (by decide) rfl (.c (.c (v' := vB 64) rfl) (.c (.c (v' := vB 0) rfl) (.c (.c (v' := vB 241) rfl) (.c (.c (v' := vB 192) rfl) .n)))) rfl (fun zs h => match zs, h with | [_, _, _, _], _ => rfl) rfl (fun _ _ _ => (.cons rfl (.cons rfl (.cons rfl (.cons rfl .nil)))))) rfl rfl fun b33 => ?_
                refine lRd (dMove (.t (.s (.s (.s (.s .z)))))) rfl rfl ?_
                refine lBind fun zs34 h35 => ?_
                refine lCh (cAppend (xs := ([(64 : UInt8), (0 : UInt8), (241 : UInt8), (192 : UInt8)] : List UInt8)) (ys := y28) .z (srcRo .z) (.t (.s .z)) (.t .z) und_34 und_34 rfl inf_5 rfl (by decide) h35) rfl rfl fun v36 => ?_
                refine lRd (dAssign (.t .z)) rfl rfl ?_
                refine lNil ?_
                refine xCode ?_
                refine cSeq ?_
                refine cRegion ?_
                refine lRd (dMove (.t .z)) rfl rfl ?_
                refine lRd (dLen (at_ := #[34]) (slOwn .z) rfl und_34 (.t .z)) rfl rfl ?_
                refine lRd (dAddI (.t .z) (.c rfl)) rfl rfl ?_
                refine lRd (dAssign (.t .z)) rfl rfl ?_
                refine lNil ?_
                refine xCode ?_
                refine cSeq ?_
                refine cRegion ?_
                refine lRd (dMove (.t (.s (.s (.s (.s (.s (.s (.s (.s (.s (.s (.s (.s (.s (.s (.s (.s (.s (.s (.s .z))))))))))))))))))))) rfl rfl ?_
                refine lRd (dMove (.t (.s .z))) rfl rfl ?_
                refine lRd (dShr (.t .z) (.c rfl) (by decide)) rfl rfl ?_
                refine lRd (dConvToB som_3 und_5 (.t .z)) rfl rfl ?_
                refine lRd (dMove (.t (.s (.s (.s (.s .z)))))) rfl rfl ?_
                refine lRd (dConvToB som_3 und_5 (.t .z)) rfl rfl ?_
                refine lCh (cBuildSlice (te := 5) (k := kB) (css := [[vB (toB (Int.fdiv (w64 ((zs34.length : Int) + 2)) (2 ^ (min (Int.toNat 8) 64))))], [vB (toB (w64 ((zs34.length : Int) + 2)))]]) (xs := ([toB (Int.fdiv (w64 ((zs34.length : Int) + 2)) (2 ^ (min (Int.toNat 8) 64))), toB (w64 ((zs34.length : Int) + 2))] : List UInt8)) und_34 siz_5 zer_5 rfl (by decide) rfl (.c (.t (.s (.s .z))) (.c (.t .z) .n)) rfl (fun zs h => match zs, h with | [_, _], _ => rfl) rfl (fun _ _ _ => (.cons rfl (.cons rfl .nil)))) rfl rfl fun b37 => ?_
                refine lBind fun zs38 h39 => ?_
                refine lCh (cAppend (xs := s22.2.2.1) (ys := ([toB (Int.fdiv (w64 ((zs34.length : Int) + 2)) (2 ^ (min (Int.toNat 8) 64))), toB (w64 ((zs34.length : Int) + 2))] : List UInt8)) (.s (.s (.s .z))) (srcOwn .z) (.t (.s (.s (.s (.s (.s (.s .z))))))) (.t .z) und_34 und_34 rfl inf_5 rfl (by decide) h39) rfl rfl fun v40 => ?_
                refine lRd (dMove (.t (.s (.s (.s (.s (.s (.s (.s (.s (.s (.s (.s (.s .z)))))))))))))) rfl rfl ?_
                refine lBind fun zs41 h42 => ?_
                refine lCh (cAppend (xs := zs38) (ys := zs34) .z (srcOwn (.s .z)) (.t (.s .z)) (.t .z) und_34 und_34 rfl inf_5 rfl (by decide) h42) rfl rfl fun v43 => ?_
                refine lRdK (dAssign (.t .z)) (.k (.k (.k (.k (.k (.k (.k (.k (.k (.k (.k (.k (.k (.k (.k (.k (.k (.k (.k (.k (.k (.k (.k (.k (.k (.k (.k (.k (.k (.d (Keep.refl _))))))))))))))))))))))))))))))) rfl rfl ?_
                refine lNil ?_
                refine xCode ?_
                refine cSeq ?_
                refine cRegion ?_
                refine lRd (dMove (.t (.s (.s (.s (.s (.s (.s (.s (.s (.s (.s (.s (.s (.s (.s (.s (.s (.s (.s (.s (.s (.s (.s (.s (.s (.s (.s (.s (.s (.s .z))))))))))))))))))))))))))))))) rfl rfl ?_
                refine lRd (dNot (.t .z)) rfl rfl ?_
                refine lNil ?_
                refine xCode ?_
                refine cCondB (.t .z) (fun h44 => ?_) (fun h44 => ?_)
                · refine cSeq ?_
                  refine cRegion ?_
                  refine lRd (dMove (.t (.s (.s (.s (.s (.s (.s (.s (.s (.s (.s (.s (.s (.s (.s (.s (.s (.s (.s (.s (.s (.s (.s (.s (.s (.s (.s (.s (.s (.s (.s (.s (.s .z)))))))))))))))))))))))))))))))))) rfl rfl ?_
                  refine lCh (cBuildSlice (te := 5) (k := kB) (css := [[vB (241 : UInt8)], [vB (192 : UInt8)]]) (xs := ([(241 : UInt8), (192 : UInt8)] : List UInt8)) und_34 siz_5 zer_5 rfl (by decide) rfl (.c (.c (v' := vB 241) rfl) (.c (.c (v' := vB 192) rfl) .n)) rfl (fun zs h => match zs, h with | [_, _], _ => rfl) rfl (fun _ _ _ => (.cons rfl (.cons rfl .nil)))) rfl rfl fun b45 => ?_
                  refine lRd (dMove (.t (.s (.s (.s (.s (.s (.s (.s (.s (.s (.s (.s (.s (.s (.s (.s (.s (.s (.s (.s (.s (.s (.s (.s (.s (.s (.s .z)))))))))))))))))))))))))))) rfl rfl ?_
                  refine lBind fun zs46 h47 => ?_
                  refine lCh (cAppend (xs := ([(241 : UInt8), (192 : UInt8)] : List UInt8)) (ys := y28) .z (srcRo (.s (.s (.s .z)))) (.t (.s .z)) (.t .z) und_34 und_34 rfl inf_5 rfl (by decide) h47) rfl rfl fun v48 => ?_
                  refine lSt (SX.freeze Upd.z) ?_
                  refine lCall fok_8 (.c (.t (.s (.s (.s .z)))) (.c (.t .z) .n)) (screen_Screen_Run_c K (⟨(⟨s22.2.2.2.1, s22.2.2.2.2.1⟩ : api_Size), (⟨s22.2.2.2.2.2.1, s22.2.2.2.2.2.2.1⟩ : api_Size), s22.2.2.2.2.2.2.2.1, (⟨(⟨s22.2.2.2.2.2.2.2.2.1, s22.2.2.2.2.2.2.2.2.2.1⟩ : api_Size), s22.2.2.2.2.2.2.2.2.2.2.1, s22.2.2.2.2.2.2.2.2.2.2.2⟩ : plane_Plane)⟩ : screen_Screen) zs46 x19.1 x23.1 x23.2.2 v48) (.c (.s (.s (.s (.s (.s (.s (.s (.s .z)))))))) (.c (.s (.s (.s (.s (.s (.s (.s (.s .z)))))))) (.c (.s (.s (.s (.s (.s (.s (.s (.s .z)))))))) (.r .z .n)))) rfl rfl fun o49 x50 h51 => ?_
                  refine lCh (cAlloc (cs := [vB 0, .bool false, .bool false, .int .i64 0]) zer_37 rfl) rfl rfl fun b52 => ?_
                  refine lChU (uStoreA (us := [vB o49.2.f_Reply, .bool o49.2.f_Restore, .bool o49.2.f_Alarm, .int .i64 o49.2.f_Err]) (cs' := [vB o49.2.f_Reply, .bool o49.2.f_Restore, .bool o49.2.f_Alarm, .int .i64 o49.2.f_Err]) .z siz_37 rfl (by intro u hu; simp only [List.mem_cons, List.not_mem_nil, or_false] at hu; rcases hu with rfl | rfl | rfl | rfl <;> first | rfl | assumption) rfl (by simp) (.t .z) (.t (.s .z))) ?_
                  refine lNil ?_
                  refine xCode ?_
                  refine cRegion ?_
                  refine lRd (dFld fld_37_3 (by decide) (.t .z) rfl) rfl rfl ?_
                  refine lRd (dLoad .z agg_35 (.t .z) rfl) rfl rfl ?_
                  refine lRd (dNe (.t .z) (.c rfl)) rfl rfl ?_
                  refine lRdK (dAssign (.t .z)) (.k (.k (.k (.k (.k (.k (.k (.k (.k (.k (.k (.k (.k (.k (.k (.k (.k (.k (.k (.k (.k (.k (.k (.k (.k (.k (.k (.k (.k (.k (.k (.k (.k (.k (.k (.k (.k (.k (.k (.k (.d (Keep.refl _)))))))))))))))))))))))))))))))))))))))))) rfl rfl ?_
                  refine lNil ?_
                  refine xBlock ?_
                  refine xCode ?_
                  refine cRegion ?_
                  refine lRd (dAddI (.t (.s (.s (.s (.s (.s (.s (.s (.s (.s (.s (.s (.s (.s (.s (.s (.s (.s (.s (.s (.s (.s (.s (.s (.s (.s (.s (.s (.s (.s (.s (.s (.s (.s (.s (.s (.s (.s (.s .z))))))))))))))))))))))))))))))))))))))) (.c rfl)) rfl rfl ?_
                  refine lRdK (dMove (.t .z)) (.k (.k (.k (.k (.k (.k (.k (.k (.k (.k (.k (.k (.k (.k (.k (.k (.k (.k (.k (.k (.k (.k (.k (.k (.k (.k (.k (.k (.k (.k (.k (.k (.k (.k (.k (.k (.k (.k (.k (.d (Keep.refl _))))))))))))))))))))))))))))))))))))))))) rfl rfl ?_
                  refine lNil ?_
                  exact xRound h26 (w64 (s22.1 + 1), (decide (o49.2.f_Err ≠ 0)), zs41, o49.1.f_sizes_0.f_Rows, o49.1.f_sizes_0.f_Cols, o49.1.f_sizes_1.f_Rows, o49.1.f_sizes_1.f_Cols, o49.1.f_which, o49.1.f_p.f_size.f_Rows, o49.1.f_p.f_size.f_Cols, o49.1.f_p.f_cells, o49.1.f_p.f_cursor) (x50.1, v43, x50.2) (.c .z (.c (.s (.s (.s (.s (.s (.s (.s (.s (.s (.s (.s (.s (.s (.s (.s (.s (.s (.s (.s (.s (.s (.s (.s (.s (.s (.s (.s (.s (.s (.s (.s (.s (.s (.s (.s (.s (.s (.s (.s (.s .z)))))))))))))))))))))))))))))))))))))))) (.c (.s (.s (.s (.s (.s (.s (.s (.s (.s (.s (.s (.s (.s (.s (.s (.s (.s (.s (.s (.s (.s (.s (.s (.s (.s (.s (.s (.s (.s (.s (.s (.s (.s (.s (.s (.s (.s (.s (.s (.s (.s .z))))))))))))))))))))))))))))))))))))))))) (.c (.s (.s .z)) (.c (.s (.s (.s (.s (.s (.s (.s (.s (.s (.s (.s (.s (.s (.s .z)))))))))))))) (.c (.s (.s (.s (.s (.s (.s (.s (.s (.s (.s (.s (.s (.s (.s (.s (.s (.s (.s (.s (.s (.s (.s (.s (.s (.s (.s (.s (.s (.s (.s (.s (.s (.s (.s (.s (.s (.s (.s (.s (.s (.s (.s .z)))))))))))))))))))))))))))))))))))))))))) (.c (.s (.s (.s (.s (.s (.s (.s (.s (.s (.s (.s (.s (.s (.s (.s (.s (.s (.s (.s (.s (.s (.s (.s (.s (.s (.s (.s (.s (.s (.s (.s (.s (.s (.s (.s (.s (.s (.s (.s (.s (.s (.s (.s .z))))))))))))))))))))))))))))))))))))))))))) (.c (.s (.s (.s (.s (.s (.s (.s (.s (.s (.s (.s (.s (.s (.s (.s (.s (.s (.s (.s (.s (.s (.s (.s (.s (.s (.s (.s (.s (.s (.s (.s (.s (.s (.s (.s (.s (.s (.s (.s (.s (.s (.s (.s (.s .z)))))))))))))))))))))))))))))))))))))))))))) .n)))))))) (.c (.s (.s (.s (.s (.s .z))))) (.c (.s (.s (.s (.s (.s (.s (.s (.s .z)))))))) (.c (.s (.s (.s (.s (.s (.s (.s (.s .z)))))))) (.c (.s (.s (.s (.s (.s (.s (.s (.s .z)))))))) (.c (.s .z) (.c (.s .z) (.c (.s .z) (.c (.s (.s (.s (.s (.s .z))))) (.c (.s (.s (.s (.s (.s .z))))) (.c (.s (.s (.s (.s (.s .z))))) (.c (.s (.s (.s (.s (.s .z))))) (.c (.s (.s (.s (.s (.s .z))))) .nil))))))))))))
                · refine cSkip ?_
                  refine xBlock ?_
                  refine xCode ?_
                  refine cRegion ?_
                  refine lRd (dAddI (.t (.s (.s (.s (.s (.s (.s (.s (.s (.s (.s (.s (.s (.s (.s (.s (.s (.s (.s (.s (.s (.s (.s (.s (.s (.s (.s (.s (.s .z))))))))))))))))))))))))))))) (.c rfl)) rfl rfl ?_
                  refine lRdK (dMove (.t .z)) (.k (.k (.k (.k (.k (.k (.k (.k (.k (.k (.k (.k (.k (.k (.k (.k (.k (.k (.k (.k (.k (.k (.k (.k (.k (.k (.k (.k (.k (.d (Keep.refl _))))))))))))))))))))))))))))))) rfl rfl ?_
                  refine lNil ?_
                  exact xRound h26 (w64 (s22.1 + 1), s22.2.1, zs41, s22.2.2.2.1, s22.2.2.2.2.1, s22.2.2.2.2.2.1, s22.2.2.2.2.2.2.1, s22.2.2.2.2.2.2.2.1, s22.2.2.2.2.2.2.2.2.1, s22.2.2.2.2.2.2.2.2.2.1, s22.2.2.2.2.2.2.2.2.2.2.1, s22.2.2.2.2.2.2.2.2.2.2.2) (x23.1, v43, x23.2.2) (.c .z (.c (.s (.s (.s (.s (.s (.s (.s (.s (.s (.s (.s (.s (.s (.s (.s (.s (.s (.s (.s (.s (.s (.s (.s (.s (.s (.s (.s (.s (.s (.s .z)))))))))))))))))))))))))))))) (.c (.s (.s (.s (.s (.s (.s (.s (.s (.s (.s (.s (.s (.s (.s (.s (.s (.s (.s (.s (.s (.s (.s (.s (.s (.s (.s (.s (.s (.s (.s (.s .z))))))))))))))))))))))))))))))) (.c (.s (.s (.s (.s (.s (.s (.s (.s (.s (.s (.s (.s (.s (.s (.s (.s (.s (.s (.s (.s (.s (.s (.s (.s (.s (.s (.s (.s (.s (.s (.s (.s .z)))))))))))))))))))))))))))))))) (.c (.s (.s (.s (.s .z)))) (.c (.s (.s (.s (.s (.s (.s (.s (.s (.s (.s (.s (.s (.s (.s (.s (.s (.s (.s (.s (.s (.s (.s (.s (.s (.s (.s (.s (.s (.s (.s (.s (.s (.s .z))))))))))))))))))))))))))))))))) (.c (.s (.s (.s (.s (.s (.s (.s (.s (.s (.s (.s (.s (.s (.s (.s (.s (.s (.s (.s (.s (.s (.s (.s (.s (.s (.s (.s (.s (.s (.s (.s (.s (.s (.s .z)))))))))))))))))))))))))))))))))) (.c (.s (.s (.s (.s (.s (.s (.s (.s (.s (.s (.s (.s (.s (.s (.s (.s (.s (.s (.s (.s (.s (.s (.s (.s (.s (.s (.s (.s (.s (.s (.s (.s (.s (.s (.s .z))))))))))))))))))))))))))))))))))) .n)))))))) (.c .z (.c (.s (.s (.s .z))) (.c (.s (.s (.s .z))) (.c (.s (.s (.s .z))) (.c (.s (.s (.s .z))) (.c (.s (.s (.s .z))) (.c (.s (.s (.s .z))) (.c (.s (.s (.s .z))) (.c (.s (.s (.s .z))) (.c (.s (.s (.s .z))) (.c (.s (.s (.s .z))) (.c (.s (.s (.s .z))) .nil))))))))))))
            · refine cExit ?_
              refine xOver ?_
              refine xOverF ?_
              exact xBreakR (s22.2.1, s22.2.2.1, s22.2.2.2.1, s22.2.2.2.2.1, s22.2.2.2.2.2.1, s22.2.2.2.2.2.2.1, s22.2.2.2.2.2.2.2.1, s22.2.2.2.2.2.2.2.2.1, s22.2.2.2.2.2.2.2.2.2.1, s22.2.2.2.2.2.2.2.2.2.2.1, s22.2.2.2.2.2.2.2.2.2.2.2) (x23.1, x23.2.1, x23.2.2) (.c (.s (.s (.s (.s .z)))) (.c (.s (.s (.s (.s (.s .z))))) (.c (.s (.s (.s (.s (.s (.s .z)))))) (.c (.s (.s (.s (.s (.s (.s (.s .z))))))) (.c (.s (.s (.s (.s (.s (.s (.s (.s .z)))))))) .n))))) (.c .z (.c .z (.c .z (.c .z (.c .z (.c .z (.c .z (.c .z (.c .z (.c .z (.c .z (.c .z .nil))))))))))))
          · refine xCode ?_
            refine cSeq ?_
            refine cRegion ?_
            refine lRd (dMove (.t (.s (.s (.s .z))))) rfl rfl ?_
            refine lCall fok_14 (.c (.t .z) .n) (screen_Screen_Clone_c o7.1 x8.1.1 x8.1.2.1 x8.1.2.2.1) (.c (.s .z) (.c (.s .z) (.c (.s .z) .n))) rfl rfl fun o55 x56 h57 => ?_
            refine lRd (dAssign (.t .z)) rfl rfl ?_
            refine lKeep (.k (.d (.d (.k (.k (.k (.k (.k .n)))))))) ?_
            refine lNil ?_
            refine xCode ?_
            refine cSeq ?_
            refine cRegion ?_
            refine lRd (dMove (.t (.s (.s (.s (.s .z)))))) rfl rfl ?_
            refine lRd (dMove (.t (.s (.s (.s .z))))) rfl rfl ?_
            refine lSt (SX.freeze (Upd.s (Upd.s (Upd.s (Upd.s (Upd.s (Upd.s Upd.z))))))) ?_
            refine lCall fok_8 (.c (.t (.s .z)) (.c (.t .z) .n)) (screen_Screen_Run_c K o7.1 s53.2.1 x8.1.1 x8.1.2.1 x8.1.2.2.1 x54.2.1) (.c .z (.c .z (.c .z (.r (.s (.s (.s .z))) .n)))) rfl rfl fun o58 x59 h60 => ?_
            refine lRd (dMove (.t (.s (.s (.s .z))))) rfl rfl ?_
            refine lRd (dMove (.t (.s (.s (.s (.s (.s (.s .z)))))))) rfl rfl ?_
            refine lCall fok_8 (.c (.t (.s .z)) (.c (.t .z) .n)) (screen_Screen_Run_c K o55 s53.2.1 x56.1 x56.2.1 x56.2.2 x54.2.1) (.c (.s (.s (.s .z))) (.c (.s (.s (.s .z))) (.c (.s (.s (.s .z))) (.r (.s (.s (.s .z))) .n)))) rfl rfl fun o61 x62 h63 => ?_
            refine lCh (cAlloc (cs := [vB 0, .bool false, .bool false, .int .i64 0]) zer_37 rfl) rfl rfl fun b64 => ?_
            refine lCh (cAlloc (cs := [vB 0, .bool false, .bool false, .int .i64 0]) zer_37 rfl) rfl rfl fun b65 => ?_
            refine lChU (uStoreA (us := [vB o58.2.f_Reply, .bool o58.2.f_Restore, .bool o58.2.f_Alarm, .int .i64 o58.2.f_Err]) (cs' := [vB o58.2.f_Reply, .bool o58.2.f_Restore, .bool o58.2.f_Alarm, .int .i64 o58.2.f_Err]) (.s .z) siz_37 rfl (by intro u hu; simp only [List.mem_cons, List.not_mem_nil, or_false] at hu; rcases hu with rfl | rfl | rfl | rfl <;> first | rfl | assumption) rfl (by simp) (.t (.s .z)) (.t (.s (.s (.s (.s (.s .z))))))) ?_
            refine lChU (uStoreA (us := [vB o61.2.f_Reply, .bool o61.2.f_Restore, .bool o61.2.f_Alarm, .int .i64 o61.2.f_Err]) (cs' := [vB o61.2.f_Reply, .bool o61.2.f_Restore, .bool o61.2.f_Alarm, .int .i64 o61.2.f_Err]) .z siz_37 rfl (by intro u hu; simp only [List.mem_cons, List.not_mem_nil, or_false] at hu; rcases hu with rfl | rfl | rfl | rfl <;> first | rfl | assumption) rfl (by simp) (.t .z) (.t (.s (.s .z)))) ?_
            refine lKeep (.k (.k (.d (.d (.d (.d (.d (.d (.k (.k (.d (.k (.k (.k .n)))))))))))))) ?_
            refine lNil ?_
            refine xCode ?_
            refine cSeq ?_
            refine cRegion ?_
            refine lRd (dFld fld_37_3 (by decide) (.t (.s .z)) rfl) rfl rfl ?_
            refine lRd (dLoad (.s .z) agg_35 (.t .z) rfl) rfl rfl ?_
            refine lRd (dNe (.t .z) (.c rfl)) rfl rfl ?_
            refine lRd (dMove (.t (.s (.s (.s (.s (.s (.s .z)))))))) rfl rfl ?_
            refine lRd (dEqO und_4 (.t (.s .z)) (.t .z)) rfl rfl ?_
            refine lRd (dMove (.t .z)) rfl rfl ?_
            refine lCase (fun h66 => ?_) (fun h66 => ?_)
            · refine lRdG rfl .z (decide_eq_true h66) (dLoadA (us := [vB o58.2.f_Reply, .bool o58.2.f_Restore, .bool o58.2.f_Alarm, .int .i64 o58.2.f_Err]) (.s .z) agg_37 siz_37 rfl (.t (.s (.s (.s (.s (.s (.s (.s .z)))))))) rfl) rfl rfl ?_
              refine lRdG rfl (.s .z) (decide_eq_true h66) (dLoadA (us := [vB o61.2.f_Reply, .bool o61.2.f_Restore, .bool o61.2.f_Alarm, .int .i64 o61.2.f_Err]) .z agg_37 siz_37 rfl (.t (.s (.s (.s (.s (.s (.s (.s .z)))))))) rfl) rfl rfl ?_
              refine lRdG rfl (.s (.s .z)) (decide_eq_true h66) (dEqA eqg_37 (eqa_37 o58.2 o61.2) (.t (.s .z)) (.t .z)) rfl rfl ?_
              refine lRd (dPickT (.t (.s (.s (.s .z)))) (decide_eq_true h66) (.t .z)) rfl rfl ?_
              refine lRd (dMove (.t .z)) rfl rfl ?_
              refine lCase (fun h67 => ?_) (fun h67 => ?_)
              · refine lRdG rfl .z (decide_eq_true h67) (dMove (.t (.s (.s (.s (.s (.s (.s (.s (.s (.s (.s (.s (.s (.s (.s (.s (.s .z)))))))))))))))))) rfl rfl ?_
                refine lCallG rfl (.s .z) (decide_eq_true h67) fok_9 (.c (.t .z) .n) (screen_Screen_Plane_c o58.1 x8.1.1 x59.1 x59.2) (.c (.s (.s (.s (.s (.s .z))))) (.c (.s (.s (.s (.s (.s .z))))) (.c (.s (.s (.s (.s (.s .z))))) .n))) rfl rfl fun o68 x69 h70 => ?_
                refine lRdG rfl (.s (.s .z)) (decide_eq_true h67) (dMove (.t (.s (.s (.s (.s (.s (.s (.s (.s (.s (.s (.s (.s (.s (.s (.s (.s (.s .z))))))))))))))))))) rfl rfl ?_
                refine lCallG rfl (.s (.s (.s .z))) (decide_eq_true h67) fok_9 (.c (.t .z) .n) (screen_Screen_Plane_c (⟨(⟨s53.2.2.1, s53.2.2.2.1⟩ : api_Size), (⟨s53.2.2.2.2.1, s53.2.2.2.2.2.1⟩ : api_Size), s53.2.2.2.2.2.2.1, (⟨(⟨s53.2.2.2.2.2.2.2.1, s53.2.2.2.2.2.2.2.2.1⟩ : api_Size), s53.2.2.2.2.2.2.2.2.2.1, s53.2.2.2.2.2.2.2.2.2.2⟩ : plane_Plane)⟩ : screen_Screen) x19.1 x54.1 x54.2.2) (.c (.s (.s (.s (.s (.s (.s (.s (.s (.s .z))))))))) (.c (.s (.s (.s (.s (.s (.s (.s (.s (.s .z))))))))) (.c (.s (.s (.s (.s (.s (.s (.s (.s (.s .z))))))))) .n))) rfl rfl fun o71 x72 h73 => ?_
                refine lCallG rfl (.s (.s (.s (.s .z)))) (decide_eq_true h67) fok_15 (.c (.t (.s (.s .z))) (.c (.t .z) .n)) (plane_Same_c K o58.1.f_p (⟨(⟨s53.2.2.2.2.2.2.2.1, s53.2.2.2.2.2.2.2.2.1⟩ : api_Size), s53.2.2.2.2.2.2.2.2.2.1, s53.2.2.2.2.2.2.2.2.2.2⟩ : plane_Plane) x59.1 x59.2 x54.1 x54.2.2) (.c (.s (.s (.s (.s .z)))) (.c (.s (.s (.s (.s .z)))) (.c (.s .z) (.c (.s .z) .n)))) rfl rfl fun o74 x75 h76 => ?_
                refine lRd (dPickT (.t (.s (.s (.s (.s (.s .z)))))) (decide_eq_true h67) (.t .z)) rfl rfl ?_
                refine lRd (dMove (.t .z)) rfl rfl ?_
                refine lCase (fun h77 => ?_) (fun h77 => ?_)
                · refine lRdG rfl .z h77 (dMove (.t (.s (.s (.s (.s (.s (.s (.s (.s (.s (.s (.s (.s (.s (.s (.s (.s (.s (.s (.s (.s (.s (.s (.s .z))))))))))))))))))))))))) rfl rfl ?_
                  refine lCallG rfl (.s .z) h77 fok_9 (.c (.t .z) .n) (screen_Screen_Plane_c o58.1 x8.1.1 x59.1 x59.2) (.c (.s (.s (.s (.s (.s .z))))) (.c .z (.c .z .n))) rfl rfl fun o78 x79 h80 => ?_
                  refine lRdG rfl (.s (.s .z)) h77 (dMove (.t (.s (.s (.s (.s (.s (.s (.s (.s (.s (.s (.s (.s (.s (.s (.s (.s (.s (.s (.s (.s (.s (.s .z)))))))))))))))))))))))) rfl rfl ?_
                  refine lCallG rfl (.s (.s (.s .z))) h77 fok_9 (.c (.t .z) .n) (screen_Screen_Plane_c o61.1 x56.1 x62.1 x62.2) (.c (.s (.s (.s (.s (.s (.s (.s (.s .z)))))))) (.c (.s (.s (.s (.s (.s (.s (.s (.s .z)))))))) (.c (.s (.s (.s (.s (.s (.s (.s (.s .z)))))))) .n))) rfl rfl fun o81 x82 h83 => ?_
                  refine lCallG rfl (.s (.s (.s (.s .z)))) h77 fok_15 (.c (.t (.s (.s .z))) (.c (.t .z) .n)) (plane_Same_c K o58.1.f_p o61.1.f_p x59.1 x59.2 x62.1 x62.2) (.c (.s (.s (.s (.s .z)))) (.c (.s (.s (.s (.s .z)))) (.c (.s .z) (.c (.s .z) .n)))) rfl rfl fun o84 x85 h86 => ?_
                  refine lRd (dPickT (.t (.s (.s (.s (.s (.s .z)))))) h77 (.t .z)) rfl rfl ?_
                  refine lRdK (dAssign (.t .z)) (.k (.k (.k (.k (.k (.k (.k (.k (.k (.k (.k (.k (.k (.k (.k (.k (.k (.k (.k (.k (.k (.k (.k (.k (.k (.k (.k (.k (.k (.k (.d (Keep.refl _)))))))))))))))))))))))))))))))) rfl rfl ?_
                  refine lKeep (.k .n) ?_
                  refine lNil ?_
                  refine xCode ?_
                  refine cRet ?_
                  refine rLeave hD ?_
                  exact lvRet (rs := [.tmp 6]) rfl (.t .z .n) () rfl .nil
                · refine lPass rfl .z (nbT (Bool.eq_false_iff.mpr h77)) rfl ?_
                  refine lPass rfl .z (nbT (Bool.eq_false_iff.mpr h77)) rfl ?_
                  refine lPass rfl .z (nbT (Bool.eq_false_iff.mpr h77)) rfl ?_
                  refine lPass rfl .z (nbT (Bool.eq_false_iff.mpr h77)) rfl ?_
                  refine lPass rfl .z (nbT (Bool.eq_false_iff.mpr h77)) rfl ?_
                  refine lRd (dPickF (.t .z) (Bool.eq_false_iff.mpr h77) (.c rfl)) rfl rfl ?_
                  refine lRdK (dAssign (.t .z)) (.k (.k (.k (.k (.k (.k (.k (.k (.k (.k (.k (.k (.k (.k (.k (.k (.k (.k (.k (.k (.k (.k (.k (.k (.k (.d (Keep.refl _))))))))))))))))))))))))))) rfl rfl ?_
                  refine lKeep (.k .n) ?_
                  refine lNil ?_
                  refine xCode ?_
                  refine cRet ?_
                  refine rLeave hD ?_
                  exact lvRet (rs := [.tmp 6]) rfl (.t .z .n) () rfl .nil
              · refine lPass rfl .z (nbT (decide_eq_false h67)) rfl ?_
                refine lPass rfl .z (nbT (decide_eq_false h67)) rfl ?_
                refine lPass rfl .z (nbT (decide_eq_false h67)) rfl ?_
                refine lPass rfl .z (nbT (decide_eq_false h67)) rfl ?_
                refine lPass rfl .z (nbT (decide_eq_false h67)) rfl ?_
                refine lRd (dPickF (.t .z) (decide_eq_false h67) (.c rfl)) rfl rfl ?_
                refine lRd (dMove (.t .z)) rfl rfl ?_
                refine lPass rfl .z (nbT rfl) rfl ?_
                refine lPass rfl .z (nbT rfl) rfl ?_
                refine lPass rfl .z (nbT rfl) rfl ?_
                refine lPass rfl .z (nbT rfl) rfl ?_
                refine lPass rfl .z (nbT rfl) rfl ?_
                refine lRd (dPickF (.t .z) rfl (.c rfl)) rfl rfl ?_
                refine lRdK (dAssign (.t .z)) (.k (.k (.k (.k (.k (.k (.k (.k (.k (.k (.k (.k (.k (.k (.k (.k (.k (.k (.k (.k (.d (Keep.refl _)))))))))))))))))))))) rfl rfl ?_
                refine lKeep (.k .n) ?_
                refine lNil ?_
                refine xCode ?_
                refine cRet ?_
                refine rLeave hD ?_
                exact lvRet (rs := [.tmp 6]) rfl (.t .z .n) () rfl .nil
            · refine lPass rfl .z (nbT (decide_eq_false h66)) rfl ?_
              refine lPass rfl .z (nbT (decide_eq_false h66)) rfl ?_
              refine lPass rfl .z (nbT (decide_eq_false h66)) rfl ?_
              refine lRd (dPickF (.t .z) (decide_eq_false h66) (.c rfl)) rfl rfl ?_
              refine lRd (dMove (.t .z)) rfl rfl ?_
              refine lPass rfl .z (nbT rfl) rfl ?_
              refine lPass rfl .z (nbT rfl) rfl ?_
              refine lPass rfl .z (nbT rfl) rfl ?_
              refine lPass rfl .z (nbT rfl) rfl ?_
              refine lPass rfl .z (nbT rfl) rfl ?_
              refine lRd (dPickF (.t .z) rfl (.c rfl)) rfl rfl ?_
              refine lRd (dMove (.t .z)) rfl rfl ?_
              refine lPass rfl .z (nbT rfl) rfl ?_
              refine lPass rfl .z (nbT rfl) rfl ?_
              refine lPass rfl .z (nbT rfl) rfl ?_
              refine lPass rfl .z (nbT rfl) rfl ?_
              refine lPass rfl .z (nbT rfl) rfl ?_
              refine lRd (dPickF (.t .z) rfl (.c rfl)) rfl rfl ?_
              refine lRdK (dAssign (.t .z)) (.k (.k (.k (.k (.k (.k (.k (.k (.k (.k (.k (.k (.k (.k (.k (.k (.k (.d (Keep.refl _))))))))))))))))))) rfl rfl ?_
              refine lKeep (.k .n) ?_
              refine lNil ?_
              refine xCode ?_
              refine cRet ?_
              refine rLeave hD ?_
              exact lvRet (rs := [.tmp 6]) rfl (.t .z .n) () rfl .nil
    · refine lRd (dMove (.t .z)) rfl rfl ?_
      refine lRd (dExtract (.t .z) rfl) rfl rfl ?_
      refine lRd (dExtract (.t (.s .z)) rfl) rfl rfl ?_
      refine lRd (dExtract (.t (.s (.s .z))) rfl) rfl rfl ?_
      refine lCh (cAlloc (cs := [.int .i64 0, .int .i64 0, .int .i64 0, .int .i64 0, .int .i64 0, .int .i64 0, .slice none 0 0, .int .i64 0, .bool false]) zer_31 rfl) rfl rfl fun b87 => ?_
      refine lRd (dAssign (.t (.s (.s (.s .z))))) rfl rfl ?_
      refine lFact (oneRo (.s .z)) fun h88 => ?_
      refine lChU (uStoreA (us := [.int .i64 o10.1.f_Plain.f_Rows, .int .i64 o10.1.f_Plain.f_Cols, .int .i64 o10.1.f_More.f_Rows, .int .i64 o10.1.f_More.f_Cols, .int .i64 o10.1.f_P.f_Size.f_Rows, .int .i64 o10.1.f_P.f_Size.f_Cols, x11.2, .int .i64 o10.1.f_P.f_Cursor, .bool o10.1.f_Other]) (cs' := [.int .i64 o10.1.f_Plain.f_Rows, .int .i64 o10.1.f_Plain.f_Cols, .int .i64 o10.1.f_More.f_Rows, .int .i64 o10.1.f_More.f_Cols, .int .i64 o10.1.f_P.f_Size.f_Rows, .int .i64 o10.1.f_P.f_Size.f_Cols, x11.2, .int .i64 o10.1.f_P.f_Cursor, .bool o10.1.f_Other]) .z siz_31 rfl (by intro u hu; simp only [List.mem_cons, List.not_mem_nil, or_false] at hu; rcases hu with rfl | rfl | rfl | rfl | rfl | rfl | rfl | rfl | rfl <;> first | rfl | assumption) rfl (by simp) (.t (.s .z)) (.t (.s (.s (.s .z))))) ?_
      refine lRd (dAssign (.t (.s (.s .z)))) rfl rfl ?_
      refine lKeep (.k (.k (.d (.d (.d (.d (.d (.d (.d (.d (.d (.k (.d (.d (.k .n))))))))))))))) ?_
      refine lNil ?_
      refine xCode ?_
      refine cSeq ?_
      refine cSeq ?_
      refine cJoin (S := Bool) (X := Unit) (fun (s : Bool) (x : Unit) => [(36, .bool s), (7, .pointer none), (6, .bool false), (2, v2_0)]) (fun (s : Bool) (x : Unit) => [.blk b87 [.int .i64 o10.1.f_Plain.f_Rows, .int .i64 o10.1.f_Plain.f_Cols, .int .i64 o10.1.f_More.f_Rows, .int .i64 o10.1.f_More.f_Cols, .int .i64 o10.1.f_P.f_Size.f_Rows, .int .i64 o10.1.f_P.f_Size.f_Cols, x11.2, .int .i64 o10.1.f_P.f_Cursor, .bool o10.1.f_Other] 31, .ro (kSl k_api_Cell) [x11.2] o10.1.f_P.f_Cells, .blk b2 [.int .i64 a1.f_Rows, .int .i64 a1.f_Cols] 23, .blk b1 [.int .i64 a0.f_Rows, .int .i64 a0.f_Cols] 23, .ro (kSl (kSl kB)) [v2_0] a2]) ?_ (fun s90 x91 => ?_)
      · refine cRegion ?_
        refine lRd (dMove (.t .z)) rfl rfl ?_
        refine lRd (dNot (.t .z)) rfl rfl ?_
        refine lRd (dMove (.t .z)) rfl rfl ?_
        refine lCase (fun h89 => ?_) (fun h89 => ?_)
        · refine lPass rfl .z (nbF h89) rfl ?_
          refine lPass rfl .z (nbF h89) rfl ?_
          refine lPass rfl .z (nbF h89) rfl ?_
          refine lRd (dPickT (.t .z) h89 (.c rfl)) rfl rfl ?_
          refine lKeep (.k (.d (.d (.d (.d (.k (.k (.k .n)))))))) ?_
          refine lNil ?_
          exact xJoin true () (.c .z (.c (.s .z) (.c (.s (.s .z)) (.c (.s (.s (.s .z))) .n)))) (.c .z (.c .z (.c .z (.c .z (.c .z .nil)))))
        · refine lRdG rfl .z (Bool.eq_false_iff.mpr h89) (dMove (.t (.s (.s (.s (.s (.s (.s .z)))))))) rfl rfl ?_
          refine lRdG rfl (.s .z) (Bool.eq_false_iff.mpr h89) (dLen (at_ := #[24]) (slRo (.s (.s (.s (.s .z))))) rfl und_24 (.t .z)) rfl rfl ?_
          refine lRdG rfl (.s (.s .z)) (Bool.eq_false_iff.mpr h89) (dGt (.t .z) (.c rfl)) rfl rfl ?_
          refine lRd (dPickF (.t (.s (.s (.s .z)))) (Bool.eq_false_iff.mpr h89) (.t .z)) rfl rfl ?_
          refine lKeep (.k (.d (.d (.d (.d (.d (.d (.d (.k (.k (.k .n))))))))))) ?_
          refine lNil ?_
          exact xJoin (decide ((a2.length : Int) > 5)) () (.c .z (.c (.s .z) (.c (.s (.s .z)) (.c (.s (.s (.s .z))) .n)))) (.c .z (.c .z (.c .z (.c .z (.c .z .nil)))))
      · refine xCode ?_
        refine cCondB (.t .z) (fun h92 => ?_) (fun h92 => ?_)
        · refine cSeq ?_
          refine cRegion ?_
          refine lRdK (dAssign (.c rfl)) (.k (.k (.d (Keep.refl _)))) rfl rfl ?_
          refine lKeep (.k (.d (.k (.k .n)))) ?_
          refine lNil ?_
          refine xCode ?_
          refine cRet ?_
          refine rLeave hD ?_
          exact lvRet (rs := [.tmp 6]) rfl (.t .z .n) () rfl .nil
        · refine cSkip ?_
          refine xCode ?_
          refine cSeq ?_
          refine cRegion ?_
          refine lRd (dMove (.t (.s .z))) rfl rfl ?_
          exact lStuck

end Go.Proofs.Ytecipnjloenndaa.G
