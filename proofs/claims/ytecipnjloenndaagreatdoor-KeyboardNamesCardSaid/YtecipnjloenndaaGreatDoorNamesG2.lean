/-
The walk of law22_KeyboardNames, by program: each function's model, and its contract. Part 2.
-/
import Derived.Test.YtecipnjloenndaaGreatDoorNamesG1
import Derived.Test.YtecipnjloenndaaGreatDoorProg
set_option linter.unusedVariables false
set_option maxRecDepth 20000
set_option maxHeartbeats 2000000
namespace Go.Proofs.YtecipnjloenndaaGreatDoor.G
open Go Go.RowKit Go.Proofs.YtecipnjloenndaaGreatDoor.SX
-- greenscreen/greenscreenlaw22.alive
def law22_alive_m (K : Nat) : Option (Bool) := (screen_New_m (⟨2, 5⟩ : api_Size) (⟨2, 6⟩ : api_Size)).bind fun o1 => (keyboard_New_m o1.1).bind fun o4 => ((keyboard_Keyboard_Lock_m (⟨o1.1, o4.f_l, o4.f_insert, o4.f_last⟩ : keyboard_Keyboard)).bind fun o7 => (screen_Screen_Plane_m o1.1).bind fun o10 => some ()).bind fun (s13 : Unit) => (keyboard_Keyboard_Press_m K (⟨o1.1, o4.f_l, o4.f_insert, o4.f_last⟩ : keyboard_Keyboard) (⟨2, 0⟩ : keyboard_Key)).bind fun o15 => (keyboard_Keyboard_Lock_m o15.1).bind fun o18 => (lock_Lock_Open_v0_m o15.1).bind fun o21 => (keyboard_Keyboard_Press_m K o21 (⟨1, (193 : UInt8)⟩ : keyboard_Key)).bind fun o24 => (keyboard_Keyboard_Press_m K o24.1 (⟨13, 0⟩ : keyboard_Key)).bind fun o27 => (keyboard_Keyboard_Inserting_m o27.1).bind fun o30 => (keyboard_Keyboard_Press_m K o27.1 (⟨17, (125 : UInt8)⟩ : keyboard_Key)).bind fun o33 => (keyboard_Keyboard_Last_m o33.1).bind fun o36 => (keyboard_Keyboard_Press_m K o33.1 (⟨1, (193 : UInt8)⟩ : keyboard_Key)).bind fun o39 => (keyboard_Keyboard_Host_m o39.1 (⟨0, true, false, 0⟩ : screen_Result)).bind fun o42 => (keyboard_Keyboard_Press_m K o42 (⟨99, 0⟩ : keyboard_Key)).bind fun o45 => (keyboard_Named_m K ([80, 70, 49, 50] : List UInt8)).bind fun o48 => (if o15.2.2 = 40 then (if o24.2.2 = 0 then (screen_Screen_Plane_m o45.1.f_s).bind fun o54 => (plane_Plane_At_m o45.1.f_s.f_p 0).bind fun o57 => (if o57.f_Byte = (193 : UInt8) then (if o30 = true then (if o33.2.1 = true then (if o33.2.2 = 0 then (if o36 = (125 : UInt8) then (if o39.2.2 = 40 then (keyboard_Keyboard_Inserting_m o45.1).bind fun o66 => (if (!o66) = true then (keyboard_Keyboard_Last_m o45.1).bind fun o70 => (if o70 = (96 : UInt8) then (if o45.2.2 = 1 then (if o48.1 = (⟨17, (124 : UInt8)⟩ : keyboard_Key) then (if o48.2 = true then (keyboard_Name_m o48.1).bind fun o77 => (if o77 = ([80, 70, 49, 50] : List UInt8) then (keyboard_Name_m (⟨10, 0⟩ : keyboard_Key)).bind fun o81 => (if o81 = ([69, 82, 65, 83, 69, 69, 78, 68] : List UInt8) then (keyboard_Attention_m (193 : UInt8)).bind fun o85 => (if o85 = true then (keyboard_Attention_m (96 : UInt8)).bind fun o89 => (if (!o89) = true then (keyboard_Short_m (109 : UInt8)).bind fun o93 => (if o93 = true then (keyboard_Short_m (125 : UInt8)).bind fun o97 => some (!o97) else some false) else some false) else some false) else some false) else some false) else some false) else some false) else some false) else some false) else some false) else some false) else some false) else some false) else some false) else some false) else some false) else some false) else some false)
theorem law22_alive_c (K : Nat) : Con Tryz.prog 7 #[] [.ro (kVar 0 83) [] (glob_0.map vS)] (law22_alive_m K) (fun (o : Bool) (x : Unit) => .bool o) (fun (o : Bool) (x : Unit) => []) := by
  unfold law22_alive_m
  refine con (args := []) Tryz.func7 rfl 164 rfl .n rfl fun c hD => ?_
  refine cSeq ?_
  refine cRegion ?_
  refine lRd (dAssign (.c rfl)) rfl rfl ?_
  refine lNil ?_
  refine xCode ?_
  refine cSeq ?_
  refine cRegion ?_
  refine lRd (dBuild (cs := [.int .i64 2, .int .i64 5]) zer_33 rfl plc_33 (.c (.c rfl) (.c (.c rfl) .n)) rfl) rfl rfl ?_
  refine lRd (dBuild (cs := [.int .i64 2, .int .i64 6]) zer_33 rfl plc_33 (.c (.c rfl) (.c (.c rfl) .n)) rfl) rfl rfl ?_
  refine lCall fok_34 (.c (.t (.s .z)) (.c (.t .z) .n)) (screen_New_c (⟨2, 5⟩ : api_Size) (⟨2, 6⟩ : api_Size)) .n rfl rfl fun o1 x2 h3 => ?_
  refine lRd (dMove (.t .z)) rfl rfl ?_
  refine lRd (dExtract (.t .z) rfl) rfl rfl ?_
  refine lRd (dExtract (.t (.s .z)) rfl) rfl rfl ?_
  refine lRd (dAssign (.t (.s .z))) rfl rfl ?_
  refine lRdN (dAssign (.t (.s .z))) rfl ?_
  refine lKeep (.k (.d (.d (.d (.d (.d (.d (.k .n)))))))) ?_
  refine lNil ?_
  refine xCode ?_
  refine cSeq ?_
  refine cSeq ?_
  refine cRegion ?_
  refine lRd (dMove (.t .z)) rfl rfl ?_
  refine lRd (dPtrEqNil und_35 (.t .z) (.c rfl)) rfl rfl ?_
  refine lKeep (.k (.d (.k (.k .n)))) ?_
  refine lNil ?_
  refine xCode ?_
  refine cCondF (.t .z) rfl ?_
  refine cSkip ?_
  refine xCode ?_
  refine cSeq ?_
  refine cRegion ?_
  refine lRd (dMove (.t (.s .z))) rfl rfl ?_
  refine lCall fok_35 (.c (.t .z) .n) (keyboard_New_c o1.1 x2.1 x2.2.1 x2.2.2) (.c .z (.c .z (.c .z .n))) rfl rfl fun o4 x5 h6 => ?_
  refine lRd (dAssign (.t .z)) rfl rfl ?_
  refine lKeep (.k (.d (.d (.d (.k (.k .n)))))) ?_
  refine lNil ?_
  refine xCode ?_
  refine cSeq ?_
  refine cSeq ?_
  refine cJoin (S := Unit) (X := Unit) (fun (s : Unit) (x : Unit) => [(39, .bool false), (3, .pointer (some ⟨x5, 0, none⟩)), (1, .pointer (some ⟨x2.1, 0, none⟩)), (0, .bool false)]) (fun (s : Unit) (x : Unit) => [.blk x2.1 [.int .i64 o1.1.f_sizes_0.f_Rows, .int .i64 o1.1.f_sizes_0.f_Cols, .int .i64 o1.1.f_sizes_1.f_Rows, .int .i64 o1.1.f_sizes_1.f_Cols, .int .i64 o1.1.f_which, .pointer (some ⟨x2.2.1, 0, none⟩)] 124, .blk x2.2.1 [.int .i64 o1.1.f_p.f_size.f_Rows, .int .i64 o1.1.f_p.f_size.f_Cols, x2.2.2, .int .i64 o1.1.f_p.f_cursor] 126, .own x2.2.2 80 k_api_Cell o1.1.f_p.f_cells, .blk x5 [.pointer (some ⟨x2.1, 0, none⟩), .int .i64 o4.f_l.f_state, .int .i64 o4.f_l.f_why, .int .i64 o4.f_l.f_turns, .bool o4.f_insert, vB o4.f_last] 97, .ro (kVar 0 83) [] (glob_0.map vS)]) ?_ (fun s13 x14 => ?_)
  · refine cRegion ?_
    refine lRd (dMove (.t .z)) rfl rfl ?_
    refine lRd (dPtrEqNil und_36 (.t .z) (.c rfl)) rfl rfl ?_
    refine lRd (dMove (.t .z)) rfl rfl ?_
    refine lRdG rfl .z rfl (dMove (.t (.s (.s (.s .z))))) rfl rfl ?_
    refine lCallG rfl (.s .z) rfl fok_20 (.c (.t .z) .n) (keyboard_Keyboard_Lock_c (⟨o1.1, o4.f_l, o4.f_insert, o4.f_last⟩ : keyboard_Keyboard) x5 x2.1 x2.2.1 x2.2.2) (.c (.s (.s (.s .z))) (.c .z (.c .z (.c .z .n)))) rfl rfl fun o7 x8 h9 => ?_
    refine lRdG rfl (.s (.s .z)) rfl (dPtrEqNil und_62 (.t .z) (.c rfl)) rfl rfl ?_
    refine lRd (dPickF (.t (.s (.s (.s .z)))) rfl (.t .z)) rfl rfl ?_
    refine lRd (dMove (.t .z)) rfl rfl ?_
    refine lRdG rfl .z rfl (dMove (.t (.s (.s (.s (.s (.s (.s (.s (.s (.s .z))))))))))) rfl rfl ?_
    refine lCallG rfl (.s .z) rfl fok_26 (.c (.t .z) .n) (screen_Screen_Plane_c o1.1 x2.1 x2.2.1 x2.2.2) (.c (.s .z) (.c (.s .z) (.c (.s .z) .n))) rfl rfl fun o10 x11 h12 => ?_
    refine lRdG rfl (.s (.s .z)) rfl (dPtrEqNil und_70 (.t .z) (.c rfl)) rfl rfl ?_
    refine lRd (dPickF (.t (.s (.s (.s .z)))) rfl (.t .z)) rfl rfl ?_
    refine lKeep (.k (.d (.d (.d (.d (.d (.d (.d (.d (.d (.d (.d (.k (.k (.k .n))))))))))))))) ?_
    refine lNil ?_
    exact xJoin () () (.c .z (.c (.s .z) (.c (.s (.s .z)) (.c (.s (.s (.s .z))) .n)))) (.c .z (.c .z (.c .z (.c .z (.c .z .nil)))))
  · refine xCode ?_
    refine cCondF (.t .z) rfl ?_
    refine cSkip ?_
    refine xCode ?_
    refine cSeq ?_
    refine cRegion ?_
    refine lRd (dMove (.t (.s .z))) rfl rfl ?_
    refine lRd (dBuild (cs := [.int .i64 2, vB 0]) zer_23 rfl plc_23 (.c (.c rfl) .n) rfl) rfl rfl ?_
    refine lCall fok_23 (.c (.t (.s .z)) (.c (.t .z) .n)) (keyboard_Keyboard_Press_c K (⟨o1.1, o4.f_l, o4.f_insert, o4.f_last⟩ : keyboard_Keyboard) (⟨2, 0⟩ : keyboard_Key) x5 x2.1 x2.2.1 x2.2.2) (.c (.s (.s (.s .z))) (.c .z (.c .z (.c .z .n)))) rfl rfl fun o15 x16 h17 => ?_
    refine lRd (dMove (.t .z)) rfl rfl ?_
    refine lRd (dExtract (.t .z) rfl) rfl rfl ?_
    refine lRd (dExtract (.t (.s .z)) rfl) rfl rfl ?_
    refine lRdN (dAssign (.t (.s .z))) rfl ?_
    refine lRd (dAssign (.t .z)) rfl rfl ?_
    refine lKeep (.k (.d (.d (.d (.d (.d (.d (.d (.k (.k (.k .n))))))))))) ?_
    refine lNil ?_
    refine xCode ?_
    refine cSeq ?_
    refine cRegion ?_
    refine lRd (dMove (.t (.s .z))) rfl rfl ?_
    refine lCall fok_20 (.c (.t .z) .n) (keyboard_Keyboard_Lock_c o15.1 x5 x2.1 x16.1 x16.2) (.c .z (.c .z (.c .z (.c .z .n)))) rfl rfl fun o18 x19 h20 => ?_
    refine lCallN fok_21 (.c (.t .z) .n) (lock_Lock_Open_v0_c o15.1 x5 x2.1 x16.1 x16.2) (.c .z (.c .z (.c .z (.c .z .n)))) rfl fun o21 x22 h23 => ?_
    refine lKeep (.d (.d (.k (.k (.k (.k .n)))))) ?_
    refine lNil ?_
    refine xCode ?_
    refine cSeq ?_
    refine cRegion ?_
    refine lRd (dMove (.t (.s .z))) rfl rfl ?_
    refine lRd (dBuild (cs := [.int .i64 1, vB (193 : UInt8)]) zer_23 rfl plc_23 (.c (.c rfl) (.c (.c (v' := vB 193) rfl) .n)) rfl) rfl rfl ?_
    refine lCall fok_23 (.c (.t (.s .z)) (.c (.t .z) .n)) (keyboard_Keyboard_Press_c K o21 (⟨1, (193 : UInt8)⟩ : keyboard_Key) x5 x2.1 x16.1 x16.2) (.c .z (.c .z (.c .z (.c .z .n)))) rfl rfl fun o24 x25 h26 => ?_
    refine lRd (dMove (.t .z)) rfl rfl ?_
    refine lRd (dExtract (.t .z) rfl) rfl rfl ?_
    refine lRd (dExtract (.t (.s .z)) rfl) rfl rfl ?_
    refine lRdN (dAssign (.t (.s .z))) rfl ?_
    refine lRd (dAssign (.t .z)) rfl rfl ?_
    refine lKeep (.k (.d (.d (.d (.d (.d (.d (.k (.k (.k (.k .n))))))))))) ?_
    refine lNil ?_
    refine xCode ?_
    refine cSeq ?_
    refine cRegion ?_
    refine lRd (dMove (.t (.s (.s .z)))) rfl rfl ?_
    refine lRd (dBuild (cs := [.int .i64 13, vB 0]) zer_23 rfl plc_23 (.c (.c rfl) .n) rfl) rfl rfl ?_
    refine lCallN fok_23 (.c (.t (.s .z)) (.c (.t .z) .n)) (keyboard_Keyboard_Press_c K o24.1 (⟨13, 0⟩ : keyboard_Key) x5 x2.1 x25.1 x25.2) (.c .z (.c .z (.c .z (.c .z .n)))) rfl fun o27 x28 h29 => ?_
    refine lKeep (.d (.d (.k (.k (.k (.k (.k .n))))))) ?_
    refine lNil ?_
    refine xCode ?_
    refine cSeq ?_
    refine cRegion ?_
    refine lRd (dMove (.t (.s (.s .z)))) rfl rfl ?_
    refine lCall fok_30 (.c (.t .z) .n) (keyboard_Keyboard_Inserting_c o27.1 x5 x2.1 x28.1 x28.2) (.c .z (.c .z (.c .z (.c .z .n)))) rfl rfl fun o30 x31 h32 => ?_
    refine lRd (dAssign (.t .z)) rfl rfl ?_
    refine lKeep (.k (.d (.d (.k (.k (.k (.k (.k .n)))))))) ?_
    refine lNil ?_
    refine xCode ?_
    refine cSeq ?_
    refine cRegion ?_
    refine lRd (dMove (.t (.s (.s (.s .z))))) rfl rfl ?_
    refine lRd (dBuild (cs := [.int .i64 17, vB (125 : UInt8)]) zer_23 rfl plc_23 (.c (.c rfl) (.c (.c (v' := vB 125) rfl) .n)) rfl) rfl rfl ?_
    refine lCall fok_23 (.c (.t (.s .z)) (.c (.t .z) .n)) (keyboard_Keyboard_Press_c K o27.1 (⟨17, (125 : UInt8)⟩ : keyboard_Key) x5 x2.1 x28.1 x28.2) (.c .z (.c .z (.c .z (.c .z .n)))) rfl rfl fun o33 x34 h35 => ?_
    refine lRd (dMove (.t .z)) rfl rfl ?_
    refine lRd (dExtract (.t .z) rfl) rfl rfl ?_
    refine lRd (dExtract (.t (.s .z)) rfl) rfl rfl ?_
    refine lRd (dAssign (.t (.s .z))) rfl rfl ?_
    refine lRd (dAssign (.t (.s .z))) rfl rfl ?_
    refine lKeep (.k (.k (.d (.d (.d (.d (.d (.d (.k (.k (.k (.k (.k (.k .n)))))))))))))) ?_
    refine lNil ?_
    refine xCode ?_
    refine cSeq ?_
    refine cRegion ?_
    refine lRd (dMove (.t (.s (.s (.s (.s (.s .z))))))) rfl rfl ?_
    refine lCall fok_32 (.c (.t .z) .n) (keyboard_Keyboard_Last_c o33.1 x5 x2.1 x34.1 x34.2) (.c .z (.c .z (.c .z (.c .z .n)))) rfl rfl fun o36 x37 h38 => ?_
    refine lRd (dAssign (.t .z)) rfl rfl ?_
    refine lKeep (.k (.d (.d (.k (.k (.k (.k (.k (.k (.k (.k .n))))))))))) ?_
    refine lNil ?_
    refine xCode ?_
    refine cSeq ?_
    refine cRegion ?_
    refine lRd (dMove (.t (.s (.s (.s (.s (.s (.s .z)))))))) rfl rfl ?_
    refine lRd (dBuild (cs := [.int .i64 1, vB (193 : UInt8)]) zer_23 rfl plc_23 (.c (.c rfl) (.c (.c (v' := vB 193) rfl) .n)) rfl) rfl rfl ?_
    refine lCall fok_23 (.c (.t (.s .z)) (.c (.t .z) .n)) (keyboard_Keyboard_Press_c K o33.1 (⟨1, (193 : UInt8)⟩ : keyboard_Key) x5 x2.1 x34.1 x34.2) (.c .z (.c .z (.c .z (.c .z .n)))) rfl rfl fun o39 x40 h41 => ?_
    refine lRd (dMove (.t .z)) rfl rfl ?_
    refine lRd (dExtract (.t .z) rfl) rfl rfl ?_
    refine lRd (dExtract (.t (.s .z)) rfl) rfl rfl ?_
    refine lRdN (dAssign (.t (.s .z))) rfl ?_
    refine lRd (dAssign (.t .z)) rfl rfl ?_
    refine lKeep (.k (.d (.d (.d (.d (.d (.d (.k (.k (.k (.k (.k (.k (.k (.k (.k .n)))))))))))))))) ?_
    refine lNil ?_
    refine xCode ?_
    refine cSeq ?_
    refine cRegion ?_
    refine lRd (dMove (.t (.s (.s (.s (.s (.s (.s (.s .z))))))))) rfl rfl ?_
    refine lRd (dBuild (cs := [vB 0, .bool true, .bool false, .int .i64 0]) zer_54 rfl plc_54 (.c (.c rfl) .n) rfl) rfl rfl ?_
    refine lCallN fok_17 (.c (.t (.s .z)) (.c (.t .z) .n)) (keyboard_Keyboard_Host_c o39.1 (⟨0, true, false, 0⟩ : screen_Result) x5 x2.1 x40.1 x40.2) (.c .z (.c .z (.c .z (.c .z .n)))) rfl fun o42 x43 h44 => ?_
    refine lKeep (.d (.d (.k (.k (.k (.k (.k (.k (.k (.k (.k (.k .n)))))))))))) ?_
    refine lNil ?_
    refine xCode ?_
    refine cSeq ?_
    refine cRegion ?_
    refine lRd (dMove (.t (.s (.s (.s (.s (.s (.s (.s .z))))))))) rfl rfl ?_
    refine lRd (dBuild (cs := [.int .i64 99, vB 0]) zer_23 rfl plc_23 (.c (.c rfl) .n) rfl) rfl rfl ?_
    refine lCall fok_23 (.c (.t (.s .z)) (.c (.t .z) .n)) (keyboard_Keyboard_Press_c K o42 (⟨99, 0⟩ : keyboard_Key) x5 x2.1 x40.1 x40.2) (.c .z (.c .z (.c .z (.c .z .n)))) rfl rfl fun o45 x46 h47 => ?_
    refine lRd (dMove (.t .z)) rfl rfl ?_
    refine lRd (dExtract (.t .z) rfl) rfl rfl ?_
    refine lRd (dExtract (.t (.s .z)) rfl) rfl rfl ?_
    refine lRdN (dAssign (.t (.s .z))) rfl ?_
    refine lRd (dAssign (.t .z)) rfl rfl ?_
    refine lKeep (.k (.d (.d (.d (.d (.d (.d (.k (.k (.k (.k (.k (.k (.k (.k (.k (.k .n))))))))))))))))) ?_
    refine lNil ?_
    refine xCode ?_
    refine cSeq ?_
    refine cRegion ?_
    refine lCall fok_12 (.c (.c (v' := vS ([80, 70, 49, 50] : List UInt8)) rfl) .n) (keyboard_Named_c K ([80, 70, 49, 50] : List UInt8)) (.r (.s (.s (.s (.s .z)))) .n) rfl rfl fun o48 x49 h50 => ?_
    refine lRd (dMove (.t .z)) rfl rfl ?_
    refine lRd (dExtract (.t .z) rfl) rfl rfl ?_
    refine lRd (dExtract (.t (.s .z)) rfl) rfl rfl ?_
    refine lCh (cAlloc (cs := [.int .i64 0, vB 0]) zer_23 rfl) rfl rfl fun b51 => ?_
    refine lChU (uStoreA (us := [.int .i64 o48.1.f_Kind, vB o48.1.f_Byte]) (cs' := [.int .i64 o48.1.f_Kind, vB o48.1.f_Byte]) .z siz_23 rfl (by intro u hu; simp only [List.mem_cons, List.not_mem_nil, or_false] at hu; rcases hu with rfl | rfl <;> first | rfl | assumption) rfl (by simp) (.t .z) (.t (.s (.s .z)))) ?_
    refine lRd (dAssign (.t (.s .z))) rfl rfl ?_
    refine lKeep (.k (.k (.d (.d (.d (.d (.k (.k (.k (.k (.k (.k (.k (.k (.k (.k (.k .n))))))))))))))))) ?_
    refine lNil ?_
    refine xCode ?_
    refine cSeq ?_
    refine cRegion ?_
    refine lRd (dMove (.t (.s (.s (.s (.s (.s (.s (.s (.s (.s .z))))))))))) rfl rfl ?_
    refine lRd (dEq (.t .z) (.c rfl)) rfl rfl ?_
    refine lRd (dMove (.t .z)) rfl rfl ?_
    refine lCase (fun h52 => ?_) (fun h52 => ?_)
    · refine lRdG rfl .z (decide_eq_true h52) (dMove (.t (.s (.s (.s (.s (.s (.s (.s (.s (.s (.s (.s .z))))))))))))) rfl rfl ?_
      refine lRdG rfl (.s .z) (decide_eq_true h52) (dEq (.t .z) (.c rfl)) rfl rfl ?_
      refine lRd (dPickT (.t (.s (.s .z))) (decide_eq_true h52) (.t .z)) rfl rfl ?_
      refine lRd (dMove (.t .z)) rfl rfl ?_
      refine lCase (fun h53 => ?_) (fun h53 => ?_)
      · refine lRdG rfl .z (decide_eq_true h53) (dMove (.t (.s (.s (.s (.s (.s (.s (.s (.s (.s (.s (.s (.s (.s (.s (.s (.s (.s (.s .z)))))))))))))))))))) rfl rfl ?_
        refine lCallG rfl (.s .z) (decide_eq_true h53) fok_26 (.c (.t .z) .n) (screen_Screen_Plane_c o45.1.f_s x2.1 x46.1 x46.2) (.c (.s (.s .z)) (.c (.s (.s .z)) (.c (.s (.s .z)) .n))) rfl rfl fun o54 x55 h56 => ?_
        refine lCallG rfl (.s (.s .z)) (decide_eq_true h53) fok_36 (.c (.t .z) (.c (.c rfl) .n)) (plane_Plane_At_c o45.1.f_s.f_p 0 x46.1 x46.2) (.c (.s .z) (.c (.s .z) .n)) rfl rfl fun o57 x58 h59 => ?_
        refine lRdG rfl (.s (.s (.s .z))) (decide_eq_true h53) (dField (u := vB o57.f_Byte) fld_80_0 (.t .z) rfl) rfl rfl ?_
        refine lRdG rfl (.s (.s (.s (.s .z)))) (decide_eq_true h53) (dEqB (.t .z) (.c (v' := vB 193) rfl)) rfl rfl ?_
        refine lRd (dPickT (.t (.s (.s (.s (.s (.s .z)))))) (decide_eq_true h53) (.t .z)) rfl rfl ?_
        refine lRd (dMove (.t .z)) rfl rfl ?_
        refine lCase (fun h60 => ?_) (fun h60 => ?_)
        · refine lRdG rfl .z (decide_eq_true h60) (dMove (.t (.s (.s (.s (.s (.s (.s (.s (.s (.s (.s (.s (.s (.s (.s (.s (.s (.s (.s (.s (.s (.s .z))))))))))))))))))))))) rfl rfl ?_
          refine lRd (dPickT (.t (.s .z)) (decide_eq_true h60) (.t .z)) rfl rfl ?_
          refine lRd (dMove (.t .z)) rfl rfl ?_
          refine lCase (fun h61 => ?_) (fun h61 => ?_)
          · refine lRdG rfl .z h61 (dMove (.t (.s (.s (.s (.s (.s (.s (.s (.s (.s (.s (.s (.s (.s (.s (.s (.s (.s (.s (.s (.s (.s (.s (.s .z))))))))))))))))))))))))) rfl rfl ?_
            refine lRd (dPickT (.t (.s .z)) h61 (.t .z)) rfl rfl ?_
            refine lRd (dMove (.t .z)) rfl rfl ?_
            refine lCase (fun h62 => ?_) (fun h62 => ?_)
            · refine lRdG rfl .z h62 (dMove (.t (.s (.s (.s (.s (.s (.s (.s (.s (.s (.s (.s (.s (.s (.s (.s (.s (.s (.s (.s (.s (.s (.s (.s (.s (.s .z))))))))))))))))))))))))))) rfl rfl ?_
              refine lRdG rfl (.s .z) h62 (dEq (.t .z) (.c rfl)) rfl rfl ?_
              refine lRd (dPickT (.t (.s (.s .z))) h62 (.t .z)) rfl rfl ?_
              refine lRd (dMove (.t .z)) rfl rfl ?_
              refine lCase (fun h63 => ?_) (fun h63 => ?_)
              · refine lRdG rfl .z (decide_eq_true h63) (dMove (.t (.s (.s (.s (.s (.s (.s (.s (.s (.s (.s (.s (.s (.s (.s (.s (.s (.s (.s (.s (.s (.s (.s (.s (.s (.s (.s (.s (.s .z)))))))))))))))))))))))))))))) rfl rfl ?_
                refine lRdG rfl (.s .z) (decide_eq_true h63) (dEqB (.t .z) (.c (v' := vB 125) rfl)) rfl rfl ?_
                refine lRd (dPickT (.t (.s (.s .z))) (decide_eq_true h63) (.t .z)) rfl rfl ?_
                refine lRd (dMove (.t .z)) rfl rfl ?_
                refine lCase (fun h64 => ?_) (fun h64 => ?_)
                · refine lRdG rfl .z (decide_eq_true h64) (dMove (.t (.s (.s (.s (.s (.s (.s (.s (.s (.s (.s (.s (.s (.s (.s (.s (.s (.s (.s (.s (.s (.s (.s (.s (.s (.s (.s (.s (.s (.s (.s (.s .z))))))))))))))))))))))))))))))))) rfl rfl ?_
                  refine lRdG rfl (.s .z) (decide_eq_true h64) (dEq (.t .z) (.c rfl)) rfl rfl ?_
                  refine lRd (dPickT (.t (.s (.s .z))) (decide_eq_true h64) (.t .z)) rfl rfl ?_
                  refine lRd (dMove (.t .z)) rfl rfl ?_
                  refine lCase (fun h65 => ?_) (fun h65 => ?_)
                  · refine lRdG rfl .z (decide_eq_true h65) (dMove (.t (.s (.s (.s (.s (.s (.s (.s (.s (.s (.s (.s (.s (.s (.s (.s (.s (.s (.s (.s (.s (.s (.s (.s (.s (.s (.s (.s (.s (.s (.s (.s (.s (.s (.s (.s (.s (.s (.s (.s (.s (.s (.s .z)))))))))))))))))))))))))))))))))))))))))))) rfl rfl ?_
                    refine lCallG rfl (.s .z) (decide_eq_true h65) fok_30 (.c (.t .z) .n) (keyboard_Keyboard_Inserting_c o45.1 x5 x2.1 x46.1 x46.2) (.c (.s (.s (.s (.s .z)))) (.c (.s (.s .z)) (.c .z (.c .z .n)))) rfl rfl fun o66 x67 h68 => ?_
                    refine lRdG rfl (.s (.s .z)) (decide_eq_true h65) (dNot (.t .z)) rfl rfl ?_
                    refine lRd (dPickT (.t (.s (.s (.s .z)))) (decide_eq_true h65) (.t .z)) rfl rfl ?_
                    refine lRd (dMove (.t .z)) rfl rfl ?_
                    refine lCase (fun h69 => ?_) (fun h69 => ?_)
                    · refine lRdG rfl .z h69 (dMove (.t (.s (.s (.s (.s (.s (.s (.s (.s (.s (.s (.s (.s (.s (.s (.s (.s (.s (.s (.s (.s (.s (.s (.s (.s (.s (.s (.s (.s (.s (.s (.s (.s (.s (.s (.s (.s (.s (.s (.s (.s (.s (.s (.s (.s (.s (.s (.s .z))))))))))))))))))))))))))))))))))))))))))))))))) rfl rfl ?_
                      refine lCallG rfl (.s .z) h69 fok_32 (.c (.t .z) .n) (keyboard_Keyboard_Last_c o45.1 x5 x2.1 x46.1 x46.2) (.c .z (.c .z (.c .z (.c .z .n)))) rfl rfl fun o70 x71 h72 => ?_
                      refine lRdG rfl (.s (.s .z)) h69 (dEqB (.t .z) (.c (v' := vB 96) rfl)) rfl rfl ?_
                      refine lRd (dPickT (.t (.s (.s (.s .z)))) h69 (.t .z)) rfl rfl ?_
                      refine lRd (dMove (.t .z)) rfl rfl ?_
                      refine lCase (fun h73 => ?_) (fun h73 => ?_)
                      · refine lRdG rfl .z (decide_eq_true h73) (dMove (.t (.s (.s (.s (.s (.s (.s (.s (.s (.s (.s (.s (.s (.s (.s (.s (.s (.s (.s (.s (.s (.s (.s (.s (.s (.s (.s (.s (.s (.s (.s (.s (.s (.s (.s (.s (.s (.s (.s (.s (.s (.s (.s (.s (.s .z)))))))))))))))))))))))))))))))))))))))))))))) rfl rfl ?_
                        refine lRdG rfl (.s .z) (decide_eq_true h73) (dEq (.t .z) (.c rfl)) rfl rfl ?_
                        refine lRd (dPickT (.t (.s (.s .z))) (decide_eq_true h73) (.t .z)) rfl rfl ?_
                        refine lRd (dMove (.t .z)) rfl rfl ?_
                        refine lCase (fun h74 => ?_) (fun h74 => ?_)
                        · refine lRdG rfl .z (decide_eq_true h74) (dLoadA (us := [.int .i64 o48.1.f_Kind, vB o48.1.f_Byte]) (.s (.s (.s (.s .z)))) agg_23 siz_23 rfl (.t (.s (.s (.s (.s (.s (.s (.s (.s (.s (.s (.s (.s (.s (.s (.s (.s (.s (.s (.s (.s (.s (.s (.s (.s (.s (.s (.s (.s (.s (.s (.s (.s (.s (.s (.s (.s (.s (.s (.s (.s (.s (.s (.s (.s (.s (.s (.s .z)))))))))))))))))))))))))))))))))))))))))))))))) rfl) rfl rfl ?_
                          refine lRdG rfl (.s .z) (decide_eq_true h74) (dBuild (cs := [.int .i64 17, vB (124 : UInt8)]) zer_23 rfl plc_23 (.c (.c rfl) (.c (.c (v' := vB 124) rfl) .n)) rfl) rfl rfl ?_
                          refine lRdG rfl (.s (.s .z)) (decide_eq_true h74) (dEqA eqg_23 (eqa_23 o48.1 (⟨17, (124 : UInt8)⟩ : keyboard_Key)) (.t (.s .z)) (.t .z)) rfl rfl ?_
                          refine lRd (dPickT (.t (.s (.s (.s .z)))) (decide_eq_true h74) (.t .z)) rfl rfl ?_
                          refine lRd (dMove (.t .z)) rfl rfl ?_
                          refine lCase (fun h75 => ?_) (fun h75 => ?_)
                          · refine lRdG rfl .z (decide_eq_true h75) (dMove (.t (.s (.s (.s (.s (.s (.s (.s (.s (.s (.s (.s (.s (.s (.s (.s (.s (.s (.s (.s (.s (.s (.s (.s (.s (.s (.s (.s (.s (.s (.s (.s (.s (.s (.s (.s (.s (.s (.s (.s (.s (.s (.s (.s (.s (.s (.s (.s (.s (.s (.s (.s .z))))))))))))))))))))))))))))))))))))))))))))))))))))) rfl rfl ?_
                            refine lRd (dPickT (.t (.s .z)) (decide_eq_true h75) (.t .z)) rfl rfl ?_
                            refine lRd (dMove (.t .z)) rfl rfl ?_
                            refine lCase (fun h76 => ?_) (fun h76 => ?_)
                            · refine lRdG rfl .z h76 (dLoadA (us := [.int .i64 o48.1.f_Kind, vB o48.1.f_Byte]) (.s (.s (.s (.s .z)))) agg_23 siz_23 rfl (.t (.s (.s (.s (.s (.s (.s (.s (.s (.s (.s (.s (.s (.s (.s (.s (.s (.s (.s (.s (.s (.s (.s (.s (.s (.s (.s (.s (.s (.s (.s (.s (.s (.s (.s (.s (.s (.s (.s (.s (.s (.s (.s (.s (.s (.s (.s (.s (.s (.s (.s (.s (.s (.s (.s (.s .z)))))))))))))))))))))))))))))))))))))))))))))))))))))))) rfl) rfl rfl ?_
                              refine lCallG rfl (.s .z) h76 fok_9 (.c (.t .z) .n) (keyboard_Name_c o48.1) (.r (.s (.s (.s (.s (.s .z))))) .n) rfl rfl fun o77 x78 h79 => ?_
                              refine lRdG rfl (.s (.s .z)) h76 (dEqS (.t .z) (.c (v' := vS ([80, 70, 49, 50] : List UInt8)) rfl)) rfl rfl ?_
                              refine lRd (dPickT (.t (.s (.s (.s .z)))) h76 (.t .z)) rfl rfl ?_
                              refine lRd (dMove (.t .z)) rfl rfl ?_
                              refine lCase (fun h80 => ?_) (fun h80 => ?_)
                              · refine lRdG rfl .z (decide_eq_true h80) (dBuild (cs := [.int .i64 10, vB 0]) zer_23 rfl plc_23 (.c (.c rfl) .n) rfl) rfl rfl ?_
                                refine lCallG rfl (.s .z) (decide_eq_true h80) fok_9 (.c (.t .z) .n) (keyboard_Name_c (⟨10, 0⟩ : keyboard_Key)) (.r (.s (.s (.s (.s (.s .z))))) .n) rfl rfl fun o81 x82 h83 => ?_
                                refine lRdG rfl (.s (.s .z)) (decide_eq_true h80) (dEqS (.t .z) (.c (v' := vS ([69, 82, 65, 83, 69, 69, 78, 68] : List UInt8)) rfl)) rfl rfl ?_
                                refine lRd (dPickT (.t (.s (.s (.s .z)))) (decide_eq_true h80) (.t .z)) rfl rfl ?_
                                refine lRd (dMove (.t .z)) rfl rfl ?_
                                refine lCase (fun h84 => ?_) (fun h84 => ?_)
                                · refine lCallG rfl .z (decide_eq_true h84) fok_10 (.c (.c (v' := vB 193) rfl) .n) (keyboard_Attention_c (193 : UInt8)) .n rfl rfl fun o85 x86 h87 => ?_
                                  refine lRd (dPickT (.t (.s .z)) (decide_eq_true h84) (.t .z)) rfl rfl ?_
                                  refine lRd (dMove (.t .z)) rfl rfl ?_
                                  refine lCase (fun h88 => ?_) (fun h88 => ?_)
                                  · refine lCallG rfl .z h88 fok_10 (.c (.c (v' := vB 96) rfl) .n) (keyboard_Attention_c (96 : UInt8)) .n rfl rfl fun o89 x90 h91 => ?_
                                    refine lRdG rfl (.s .z) h88 (dNot (.t .z)) rfl rfl ?_
                                    refine lRd (dPickT (.t (.s (.s .z))) h88 (.t .z)) rfl rfl ?_
                                    refine lRd (dMove (.t .z)) rfl rfl ?_
                                    refine lCase (fun h92 => ?_) (fun h92 => ?_)
                                    · refine lCallG rfl .z h92 fok_13 (.c (.c (v' := vB 109) rfl) .n) (keyboard_Short_c (109 : UInt8)) .n rfl rfl fun o93 x94 h95 => ?_
                                      refine lRd (dPickT (.t (.s .z)) h92 (.t .z)) rfl rfl ?_
                                      refine lRd (dMove (.t .z)) rfl rfl ?_
                                      refine lCase (fun h96 => ?_) (fun h96 => ?_)
                                      · refine lCallG rfl .z h96 fok_13 (.c (.c (v' := vB 125) rfl) .n) (keyboard_Short_c (125 : UInt8)) .n rfl rfl fun o97 x98 h99 => ?_
                                        refine lRdG rfl (.s .z) h96 (dNot (.t .z)) rfl rfl ?_
                                        refine lRd (dPickT (.t (.s (.s .z))) h96 (.t .z)) rfl rfl ?_
                                        refine lRdK (dAssign (.t .z)) (.k (.k (.k (.k (.k (.k (.k (.k (.k (.k (.k (.k (.k (.k (.k (.k (.k (.k (.k (.k (.k (.k (.k (.k (.k (.k (.k (.k (.k (.k (.k (.k (.k (.k (.k (.k (.k (.k (.k (.k (.k (.k (.k (.k (.k (.k (.k (.k (.k (.k (.k (.k (.k (.k (.k (.k (.k (.k (.k (.k (.k (.k (.k (.k (.k (.k (.k (.k (.k (.k (.k (.k (.k (.k (.k (.k (.k (.k (.k (.k (.k (.k (.k (.k (.k (.k (.k (.k (.k (.d (Keep.refl _))))))))))))))))))))))))))))))))))))))))))))))))))))))))))))))))))))))))))))))))))))))))))) rfl rfl ?_
                                        refine lKeep (.k .n) ?_
                                        refine lNil ?_
                                        refine xCode ?_
                                        refine cRet ?_
                                        exact rDone (rs := [.tmp 0]) rfl (.t .z .n) hD (.inl rfl) () rfl .nil
                                      · refine lPass rfl .z (nbT (Bool.eq_false_iff.mpr h96)) rfl ?_
                                        refine lPass rfl .z (nbT (Bool.eq_false_iff.mpr h96)) rfl ?_
                                        refine lRd (dPickF (.t .z) (Bool.eq_false_iff.mpr h96) (.c rfl)) rfl rfl ?_
                                        refine lRdK (dAssign (.t .z)) (.k (.k (.k (.k (.k (.k (.k (.k (.k (.k (.k (.k (.k (.k (.k (.k (.k (.k (.k (.k (.k (.k (.k (.k (.k (.k (.k (.k (.k (.k (.k (.k (.k (.k (.k (.k (.k (.k (.k (.k (.k (.k (.k (.k (.k (.k (.k (.k (.k (.k (.k (.k (.k (.k (.k (.k (.k (.k (.k (.k (.k (.k (.k (.k (.k (.k (.k (.k (.k (.k (.k (.k (.k (.k (.k (.k (.k (.k (.k (.k (.k (.k (.k (.k (.k (.k (.k (.d (Keep.refl _))))))))))))))))))))))))))))))))))))))))))))))))))))))))))))))))))))))))))))))))))))))))) rfl rfl ?_
                                        refine lKeep (.k .n) ?_
                                        refine lNil ?_
                                        refine xCode ?_
                                        refine cRet ?_
                                        exact rDone (rs := [.tmp 0]) rfl (.t .z .n) hD (.inl rfl) () rfl .nil
                                    · refine lPass rfl .z (nbT (Bool.eq_false_iff.mpr h92)) rfl ?_
                                      refine lRd (dPickF (.t .z) (Bool.eq_false_iff.mpr h92) (.c rfl)) rfl rfl ?_
                                      refine lRd (dMove (.t .z)) rfl rfl ?_
                                      refine lPass rfl .z (nbT rfl) rfl ?_
                                      refine lPass rfl .z (nbT rfl) rfl ?_
                                      refine lRd (dPickF (.t .z) rfl (.c rfl)) rfl rfl ?_
                                      refine lRdK (dAssign (.t .z)) (.k (.k (.k (.k (.k (.k (.k (.k (.k (.k (.k (.k (.k (.k (.k (.k (.k (.k (.k (.k (.k (.k (.k (.k (.k (.k (.k (.k (.k (.k (.k (.k (.k (.k (.k (.k (.k (.k (.k (.k (.k (.k (.k (.k (.k (.k (.k (.k (.k (.k (.k (.k (.k (.k (.k (.k (.k (.k (.k (.k (.k (.k (.k (.k (.k (.k (.k (.k (.k (.k (.k (.k (.k (.k (.k (.k (.k (.k (.k (.k (.k (.k (.k (.k (.k (.k (.d (Keep.refl _)))))))))))))))))))))))))))))))))))))))))))))))))))))))))))))))))))))))))))))))))))))))) rfl rfl ?_
                                      refine lKeep (.k .n) ?_
                                      refine lNil ?_
                                      refine xCode ?_
                                      refine cRet ?_
                                      exact rDone (rs := [.tmp 0]) rfl (.t .z .n) hD (.inl rfl) () rfl .nil
                                  · refine lPass rfl .z (nbT (Bool.eq_false_iff.mpr h88)) rfl ?_
                                    refine lPass rfl .z (nbT (Bool.eq_false_iff.mpr h88)) rfl ?_
                                    refine lRd (dPickF (.t .z) (Bool.eq_false_iff.mpr h88) (.c rfl)) rfl rfl ?_
                                    refine lRd (dMove (.t .z)) rfl rfl ?_
                                    refine lPass rfl .z (nbT rfl) rfl ?_
                                    refine lRd (dPickF (.t .z) rfl (.c rfl)) rfl rfl ?_
                                    refine lRd (dMove (.t .z)) rfl rfl ?_
                                    refine lPass rfl .z (nbT rfl) rfl ?_
                                    refine lPass rfl .z (nbT rfl) rfl ?_
                                    refine lRd (dPickF (.t .z) rfl (.c rfl)) rfl rfl ?_
                                    refine lRdK (dAssign (.t .z)) (.k (.k (.k (.k (.k (.k (.k (.k (.k (.k (.k (.k (.k (.k (.k (.k (.k (.k (.k (.k (.k (.k (.k (.k (.k (.k (.k (.k (.k (.k (.k (.k (.k (.k (.k (.k (.k (.k (.k (.k (.k (.k (.k (.k (.k (.k (.k (.k (.k (.k (.k (.k (.k (.k (.k (.k (.k (.k (.k (.k (.k (.k (.k (.k (.k (.k (.k (.k (.k (.k (.k (.k (.k (.k (.k (.k (.k (.k (.k (.k (.k (.k (.k (.k (.d (Keep.refl _)))))))))))))))))))))))))))))))))))))))))))))))))))))))))))))))))))))))))))))))))))))) rfl rfl ?_
                                    refine lKeep (.k .n) ?_
                                    refine lNil ?_
                                    refine xCode ?_
                                    refine cRet ?_
                                    exact rDone (rs := [.tmp 0]) rfl (.t .z .n) hD (.inl rfl) () rfl .nil
                                · refine lPass rfl .z (nbT (decide_eq_false h84)) rfl ?_
                                  refine lRd (dPickF (.t .z) (decide_eq_false h84) (.c rfl)) rfl rfl ?_
                                  refine lRd (dMove (.t .z)) rfl rfl ?_
                                  refine lPass rfl .z (nbT rfl) rfl ?_
                                  refine lPass rfl .z (nbT rfl) rfl ?_
                                  refine lRd (dPickF (.t .z) rfl (.c rfl)) rfl rfl ?_
                                  refine lRd (dMove (.t .z)) rfl rfl ?_
                                  refine lPass rfl .z (nbT rfl) rfl ?_
                                  refine lRd (dPickF (.t .z) rfl (.c rfl)) rfl rfl ?_
                                  refine lRd (dMove (.t .z)) rfl rfl ?_
                                  refine lPass rfl .z (nbT rfl) rfl ?_
                                  refine lPass rfl .z (nbT rfl) rfl ?_
                                  refine lRd (dPickF (.t .z) rfl (.c rfl)) rfl rfl ?_
                                  refine lRdK (dAssign (.t .z)) (.k (.k (.k (.k (.k (.k (.k (.k (.k (.k (.k (.k (.k (.k (.k (.k (.k (.k (.k (.k (.k (.k (.k (.k (.k (.k (.k (.k (.k (.k (.k (.k (.k (.k (.k (.k (.k (.k (.k (.k (.k (.k (.k (.k (.k (.k (.k (.k (.k (.k (.k (.k (.k (.k (.k (.k (.k (.k (.k (.k (.k (.k (.k (.k (.k (.k (.k (.k (.k (.k (.k (.k (.k (.k (.k (.k (.k (.k (.k (.k (.k (.k (.k (.d (Keep.refl _))))))))))))))))))))))))))))))))))))))))))))))))))))))))))))))))))))))))))))))))))))) rfl rfl ?_
                                  refine lKeep (.k .n) ?_
                                  refine lNil ?_
                                  refine xCode ?_
                                  refine cRet ?_
                                  exact rDone (rs := [.tmp 0]) rfl (.t .z .n) hD (.inl rfl) () rfl .nil
                              · refine lPass rfl .z (nbT (decide_eq_false h80)) rfl ?_
                                refine lPass rfl .z (nbT (decide_eq_false h80)) rfl ?_
                                refine lPass rfl .z (nbT (decide_eq_false h80)) rfl ?_
                                refine lRd (dPickF (.t .z) (decide_eq_false h80) (.c rfl)) rfl rfl ?_
                                refine lRd (dMove (.t .z)) rfl rfl ?_
                                refine lPass rfl .z (nbT rfl) rfl ?_
                                refine lRd (dPickF (.t .z) rfl (.c rfl)) rfl rfl ?_
                                refine lRd (dMove (.t .z)) rfl rfl ?_
                                refine lPass rfl .z (nbT rfl) rfl ?_
                                refine lPass rfl .z (nbT rfl) rfl ?_
                                refine lRd (dPickF (.t .z) rfl (.c rfl)) rfl rfl ?_
                                refine lRd (dMove (.t .z)) rfl rfl ?_
                                refine lPass rfl .z (nbT rfl) rfl ?_
                                refine lRd (dPickF (.t .z) rfl (.c rfl)) rfl rfl ?_
                                refine lRd (dMove (.t .z)) rfl rfl ?_
                                refine lPass rfl .z (nbT rfl) rfl ?_
                                refine lPass rfl .z (nbT rfl) rfl ?_
                                refine lRd (dPickF (.t .z) rfl (.c rfl)) rfl rfl ?_
                                refine lRdK (dAssign (.t .z)) (.k (.k (.k (.k (.k (.k (.k (.k (.k (.k (.k (.k (.k (.k (.k (.k (.k (.k (.k (.k (.k (.k (.k (.k (.k (.k (.k (.k (.k (.k (.k (.k (.k (.k (.k (.k (.k (.k (.k (.k (.k (.k (.k (.k (.k (.k (.k (.k (.k (.k (.k (.k (.k (.k (.k (.k (.k (.k (.k (.k (.k (.k (.k (.k (.k (.k (.k (.k (.k (.k (.k (.k (.k (.k (.k (.k (.k (.k (.k (.k (.d (Keep.refl _)))))))))))))))))))))))))))))))))))))))))))))))))))))))))))))))))))))))))))))))))) rfl rfl ?_
                                refine lKeep (.k .n) ?_
                                refine lNil ?_
                                refine xCode ?_
                                refine cRet ?_
                                exact rDone (rs := [.tmp 0]) rfl (.t .z .n) hD (.inl rfl) () rfl .nil
                            · refine lPass rfl .z (nbT (Bool.eq_false_iff.mpr h76)) rfl ?_
                              refine lPass rfl .z (nbT (Bool.eq_false_iff.mpr h76)) rfl ?_
                              refine lPass rfl .z (nbT (Bool.eq_false_iff.mpr h76)) rfl ?_
                              refine lRd (dPickF (.t .z) (Bool.eq_false_iff.mpr h76) (.c rfl)) rfl rfl ?_
                              refine lRd (dMove (.t .z)) rfl rfl ?_
                              refine lPass rfl .z (nbT rfl) rfl ?_
                              refine lPass rfl .z (nbT rfl) rfl ?_
                              refine lPass rfl .z (nbT rfl) rfl ?_
                              refine lRd (dPickF (.t .z) rfl (.c rfl)) rfl rfl ?_
                              refine lRd (dMove (.t .z)) rfl rfl ?_
                              refine lPass rfl .z (nbT rfl) rfl ?_
                              refine lRd (dPickF (.t .z) rfl (.c rfl)) rfl rfl ?_
                              refine lRd (dMove (.t .z)) rfl rfl ?_
                              refine lPass rfl .z (nbT rfl) rfl ?_
                              refine lPass rfl .z (nbT rfl) rfl ?_
                              refine lRd (dPickF (.t .z) rfl (.c rfl)) rfl rfl ?_
                              refine lRd (dMove (.t .z)) rfl rfl ?_
                              refine lPass rfl .z (nbT rfl) rfl ?_
                              refine lRd (dPickF (.t .z) rfl (.c rfl)) rfl rfl ?_
                              refine lRd (dMove (.t .z)) rfl rfl ?_
                              refine lPass rfl .z (nbT rfl) rfl ?_
                              refine lPass rfl .z (nbT rfl) rfl ?_
                              refine lRd (dPickF (.t .z) rfl (.c rfl)) rfl rfl ?_
                              refine lRdK (dAssign (.t .z)) (.k (.k (.k (.k (.k (.k (.k (.k (.k (.k (.k (.k (.k (.k (.k (.k (.k (.k (.k (.k (.k (.k (.k (.k (.k (.k (.k (.k (.k (.k (.k (.k (.k (.k (.k (.k (.k (.k (.k (.k (.k (.k (.k (.k (.k (.k (.k (.k (.k (.k (.k (.k (.k (.k (.k (.k (.k (.k (.k (.k (.k (.k (.k (.k (.k (.k (.k (.k (.k (.k (.k (.k (.k (.k (.k (.k (.k (.d (Keep.refl _))))))))))))))))))))))))))))))))))))))))))))))))))))))))))))))))))))))))))))))) rfl rfl ?_
                              refine lKeep (.k .n) ?_
                              refine lNil ?_
                              refine xCode ?_
                              refine cRet ?_
                              exact rDone (rs := [.tmp 0]) rfl (.t .z .n) hD (.inl rfl) () rfl .nil
                          · refine lPass rfl .z (nbT (decide_eq_false h75)) rfl ?_
                            refine lRd (dPickF (.t .z) (decide_eq_false h75) (.c rfl)) rfl rfl ?_
                            refine lRd (dMove (.t .z)) rfl rfl ?_
                            refine lPass rfl .z (nbT rfl) rfl ?_
                            refine lPass rfl .z (nbT rfl) rfl ?_
                            refine lPass rfl .z (nbT rfl) rfl ?_
                            refine lRd (dPickF (.t .z) rfl (.c rfl)) rfl rfl ?_
                            refine lRd (dMove (.t .z)) rfl rfl ?_
                            refine lPass rfl .z (nbT rfl) rfl ?_
                            refine lPass rfl .z (nbT rfl) rfl ?_
                            refine lPass rfl .z (nbT rfl) rfl ?_
                            refine lRd (dPickF (.t .z) rfl (.c rfl)) rfl rfl ?_
                            refine lRd (dMove (.t .z)) rfl rfl ?_
                            refine lPass rfl .z (nbT rfl) rfl ?_
                            refine lRd (dPickF (.t .z) rfl (.c rfl)) rfl rfl ?_
                            refine lRd (dMove (.t .z)) rfl rfl ?_
                            refine lPass rfl .z (nbT rfl) rfl ?_
                            refine lPass rfl .z (nbT rfl) rfl ?_
                            refine lRd (dPickF (.t .z) rfl (.c rfl)) rfl rfl ?_
                            refine lRd (dMove (.t .z)) rfl rfl ?_
                            refine lPass rfl .z (nbT rfl) rfl ?_
                            refine lRd (dPickF (.t .z) rfl (.c rfl)) rfl rfl ?_
                            refine lRd (dMove (.t .z)) rfl rfl ?_
                            refine lPass rfl .z (nbT rfl) rfl ?_
                            refine lPass rfl .z (nbT rfl) rfl ?_
                            refine lRd (dPickF (.t .z) rfl (.c rfl)) rfl rfl ?_
                            refine lRdK (dAssign (.t .z)) (.k (.k (.k (.k (.k (.k (.k (.k (.k (.k (.k (.k (.k (.k (.k (.k (.k (.k (.k (.k (.k (.k (.k (.k (.k (.k (.k (.k (.k (.k (.k (.k (.k (.k (.k (.k (.k (.k (.k (.k (.k (.k (.k (.k (.k (.k (.k (.k (.k (.k (.k (.k (.k (.k (.k (.k (.k (.k (.k (.k (.k (.k (.k (.k (.k (.k (.k (.k (.k (.k (.k (.k (.k (.k (.k (.k (.d (Keep.refl _)))))))))))))))))))))))))))))))))))))))))))))))))))))))))))))))))))))))))))))) rfl rfl ?_
                            refine lKeep (.k .n) ?_
                            refine lNil ?_
                            refine xCode ?_
                            refine cRet ?_
                            exact rDone (rs := [.tmp 0]) rfl (.t .z .n) hD (.inl rfl) () rfl .nil
                        · refine lPass rfl .z (nbT (decide_eq_false h74)) rfl ?_
                          refine lPass rfl .z (nbT (decide_eq_false h74)) rfl ?_
                          refine lPass rfl .z (nbT (decide_eq_false h74)) rfl ?_
                          refine lRd (dPickF (.t .z) (decide_eq_false h74) (.c rfl)) rfl rfl ?_
                          refine lRd (dMove (.t .z)) rfl rfl ?_
                          refine lPass rfl .z (nbT rfl) rfl ?_
                          refine lRd (dPickF (.t .z) rfl (.c rfl)) rfl rfl ?_
                          refine lRd (dMove (.t .z)) rfl rfl ?_
                          refine lPass rfl .z (nbT rfl) rfl ?_
                          refine lPass rfl .z (nbT rfl) rfl ?_
                          refine lPass rfl .z (nbT rfl) rfl ?_
                          refine lRd (dPickF (.t .z) rfl (.c rfl)) rfl rfl ?_
                          refine lRd (dMove (.t .z)) rfl rfl ?_
                          refine lPass rfl .z (nbT rfl) rfl ?_
                          refine lPass rfl .z (nbT rfl) rfl ?_
                          refine lPass rfl .z (nbT rfl) rfl ?_
                          refine lRd (dPickF (.t .z) rfl (.c rfl)) rfl rfl ?_
                          refine lRd (dMove (.t .z)) rfl rfl ?_
                          refine lPass rfl .z (nbT rfl) rfl ?_
                          refine lRd (dPickF (.t .z) rfl (.c rfl)) rfl rfl ?_
                          refine lRd (dMove (.t .z)) rfl rfl ?_
                          refine lPass rfl .z (nbT rfl) rfl ?_
                          refine lPass rfl .z (nbT rfl) rfl ?_
                          refine lRd (dPickF (.t .z) rfl (.c rfl)) rfl rfl ?_
                          refine lRd (dMove (.t .z)) rfl rfl ?_
                          refine lPass rfl .z (nbT rfl) rfl ?_
                          refine lRd (dPickF (.t .z) rfl (.c rfl)) rfl rfl ?_
                          refine lRd (dMove (.t .z)) rfl rfl ?_
                          refine lPass rfl .z (nbT rfl) rfl ?_
                          refine lPass rfl .z (nbT rfl) rfl ?_
                          refine lRd (dPickF (.t .z) rfl (.c rfl)) rfl rfl ?_
                          refine lRdK (dAssign (.t .z)) (.k (.k (.k (.k (.k (.k (.k (.k (.k (.k (.k (.k (.k (.k (.k (.k (.k (.k (.k (.k (.k (.k (.k (.k (.k (.k (.k (.k (.k (.k (.k (.k (.k (.k (.k (.k (.k (.k (.k (.k (.k (.k (.k (.k (.k (.k (.k (.k (.k (.k (.k (.k (.k (.k (.k (.k (.k (.k (.k (.k (.k (.k (.k (.k (.k (.k (.k (.k (.k (.k (.k (.k (.k (.d (Keep.refl _))))))))))))))))))))))))))))))))))))))))))))))))))))))))))))))))))))))))))) rfl rfl ?_
                          refine lKeep (.k .n) ?_
                          refine lNil ?_
                          refine xCode ?_
                          refine cRet ?_
                          exact rDone (rs := [.tmp 0]) rfl (.t .z .n) hD (.inl rfl) () rfl .nil
                      · refine lPass rfl .z (nbT (decide_eq_false h73)) rfl ?_
                        refine lPass rfl .z (nbT (decide_eq_false h73)) rfl ?_
                        refine lRd (dPickF (.t .z) (decide_eq_false h73) (.c rfl)) rfl rfl ?_
                        refine lRd (dMove (.t .z)) rfl rfl ?_
                        refine lPass rfl .z (nbT rfl) rfl ?_
                        refine lPass rfl .z (nbT rfl) rfl ?_
                        refine lPass rfl .z (nbT rfl) rfl ?_
                        refine lRd (dPickF (.t .z) rfl (.c rfl)) rfl rfl ?_
                        refine lRd (dMove (.t .z)) rfl rfl ?_
                        refine lPass rfl .z (nbT rfl) rfl ?_
                        refine lRd (dPickF (.t .z) rfl (.c rfl)) rfl rfl ?_
                        refine lRd (dMove (.t .z)) rfl rfl ?_
                        refine lPass rfl .z (nbT rfl) rfl ?_
                        refine lPass rfl .z (nbT rfl) rfl ?_
                        refine lPass rfl .z (nbT rfl) rfl ?_
                        refine lRd (dPickF (.t .z) rfl (.c rfl)) rfl rfl ?_
                        refine lRd (dMove (.t .z)) rfl rfl ?_
                        refine lPass rfl .z (nbT rfl) rfl ?_
                        refine lPass rfl .z (nbT rfl) rfl ?_
                        refine lPass rfl .z (nbT rfl) rfl ?_
                        refine lRd (dPickF (.t .z) rfl (.c rfl)) rfl rfl ?_
                        refine lRd (dMove (.t .z)) rfl rfl ?_
                        refine lPass rfl .z (nbT rfl) rfl ?_
                        refine lRd (dPickF (.t .z) rfl (.c rfl)) rfl rfl ?_
                        refine lRd (dMove (.t .z)) rfl rfl ?_
                        refine lPass rfl .z (nbT rfl) rfl ?_
                        refine lPass rfl .z (nbT rfl) rfl ?_
                        refine lRd (dPickF (.t .z) rfl (.c rfl)) rfl rfl ?_
                        refine lRd (dMove (.t .z)) rfl rfl ?_
                        refine lPass rfl .z (nbT rfl) rfl ?_
                        refine lRd (dPickF (.t .z) rfl (.c rfl)) rfl rfl ?_
                        refine lRd (dMove (.t .z)) rfl rfl ?_
                        refine lPass rfl .z (nbT rfl) rfl ?_
                        refine lPass rfl .z (nbT rfl) rfl ?_
                        refine lRd (dPickF (.t .z) rfl (.c rfl)) rfl rfl ?_
                        refine lRdK (dAssign (.t .z)) (.k (.k (.k (.k (.k (.k (.k (.k (.k (.k (.k (.k (.k (.k (.k (.k (.k (.k (.k (.k (.k (.k (.k (.k (.k (.k (.k (.k (.k (.k (.k (.k (.k (.k (.k (.k (.k (.k (.k (.k (.k (.k (.k (.k (.k (.k (.k (.k (.k (.k (.k (.k (.k (.k (.k (.k (.k (.k (.k (.k (.k (.k (.k (.k (.k (.k (.k (.k (.k (.k (.k (.d (Keep.refl _))))))))))))))))))))))))))))))))))))))))))))))))))))))))))))))))))))))))) rfl rfl ?_
                        refine lKeep (.k .n) ?_
                        refine lNil ?_
                        refine xCode ?_
                        refine cRet ?_
                        exact rDone (rs := [.tmp 0]) rfl (.t .z .n) hD (.inl rfl) () rfl .nil
                    · refine lPass rfl .z (nbT (Bool.eq_false_iff.mpr h69)) rfl ?_
                      refine lPass rfl .z (nbT (Bool.eq_false_iff.mpr h69)) rfl ?_
                      refine lPass rfl .z (nbT (Bool.eq_false_iff.mpr h69)) rfl ?_
                      refine lRd (dPickF (.t .z) (Bool.eq_false_iff.mpr h69) (.c rfl)) rfl rfl ?_
                      refine lRd (dMove (.t .z)) rfl rfl ?_
                      refine lPass rfl .z (nbT rfl) rfl ?_
                      refine lPass rfl .z (nbT rfl) rfl ?_
                      refine lRd (dPickF (.t .z) rfl (.c rfl)) rfl rfl ?_
                      refine lRd (dMove (.t .z)) rfl rfl ?_
                      refine lPass rfl .z (nbT rfl) rfl ?_
                      refine lPass rfl .z (nbT rfl) rfl ?_
                      refine lPass rfl .z (nbT rfl) rfl ?_
                      refine lRd (dPickF (.t .z) rfl (.c rfl)) rfl rfl ?_
                      refine lRd (dMove (.t .z)) rfl rfl ?_
                      refine lPass rfl .z (nbT rfl) rfl ?_
                      refine lRd (dPickF (.t .z) rfl (.c rfl)) rfl rfl ?_
                      refine lRd (dMove (.t .z)) rfl rfl ?_
                      refine lPass rfl .z (nbT rfl) rfl ?_
                      refine lPass rfl .z (nbT rfl) rfl ?_
                      refine lPass rfl .z (nbT rfl) rfl ?_
                      refine lRd (dPickF (.t .z) rfl (.c rfl)) rfl rfl ?_
                      refine lRd (dMove (.t .z)) rfl rfl ?_
                      refine lPass rfl .z (nbT rfl) rfl ?_
                      refine lPass rfl .z (nbT rfl) rfl ?_
                      refine lPass rfl .z (nbT rfl) rfl ?_
                      refine lRd (dPickF (.t .z) rfl (.c rfl)) rfl rfl ?_
                      refine lRd (dMove (.t .z)) rfl rfl ?_
                      refine lPass rfl .z (nbT rfl) rfl ?_
                      refine lRd (dPickF (.t .z) rfl (.c rfl)) rfl rfl ?_
                      refine lRd (dMove (.t .z)) rfl rfl ?_
                      refine lPass rfl .z (nbT rfl) rfl ?_
                      refine lPass rfl .z (nbT rfl) rfl ?_
                      refine lRd (dPickF (.t .z) rfl (.c rfl)) rfl rfl ?_
                      refine lRd (dMove (.t .z)) rfl rfl ?_
                      refine lPass rfl .z (nbT rfl) rfl ?_
                      refine lRd (dPickF (.t .z) rfl (.c rfl)) rfl rfl ?_
                      refine lRd (dMove (.t .z)) rfl rfl ?_
                      refine lPass rfl .z (nbT rfl) rfl ?_
                      refine lPass rfl .z (nbT rfl) rfl ?_
                      refine lRd (dPickF (.t .z) rfl (.c rfl)) rfl rfl ?_
                      refine lRdK (dAssign (.t .z)) (.k (.k (.k (.k (.k (.k (.k (.k (.k (.k (.k (.k (.k (.k (.k (.k (.k (.k (.k (.k (.k (.k (.k (.k (.k (.k (.k (.k (.k (.k (.k (.k (.k (.k (.k (.k (.k (.k (.k (.k (.k (.k (.k (.k (.k (.k (.k (.k (.k (.k (.k (.k (.k (.k (.k (.k (.k (.k (.k (.k (.k (.k (.k (.k (.k (.k (.k (.k (.d (Keep.refl _)))))))))))))))))))))))))))))))))))))))))))))))))))))))))))))))))))))) rfl rfl ?_
                      refine lKeep (.k .n) ?_
                      refine lNil ?_
                      refine xCode ?_
                      refine cRet ?_
                      exact rDone (rs := [.tmp 0]) rfl (.t .z .n) hD (.inl rfl) () rfl .nil
                  · refine lPass rfl .z (nbT (decide_eq_false h65)) rfl ?_
                    refine lPass rfl .z (nbT (decide_eq_false h65)) rfl ?_
                    refine lPass rfl .z (nbT (decide_eq_false h65)) rfl ?_
                    refine lRd (dPickF (.t .z) (decide_eq_false h65) (.c rfl)) rfl rfl ?_
                    refine lRd (dMove (.t .z)) rfl rfl ?_
                    refine lPass rfl .z (nbT rfl) rfl ?_
                    refine lPass rfl .z (nbT rfl) rfl ?_
                    refine lPass rfl .z (nbT rfl) rfl ?_
                    refine lRd (dPickF (.t .z) rfl (.c rfl)) rfl rfl ?_
                    refine lRd (dMove (.t .z)) rfl rfl ?_
                    refine lPass rfl .z (nbT rfl) rfl ?_
                    refine lPass rfl .z (nbT rfl) rfl ?_
                    refine lRd (dPickF (.t .z) rfl (.c rfl)) rfl rfl ?_
                    refine lRd (dMove (.t .z)) rfl rfl ?_
                    refine lPass rfl .z (nbT rfl) rfl ?_
                    refine lPass rfl .z (nbT rfl) rfl ?_
                    refine lPass rfl .z (nbT rfl) rfl ?_
                    refine lRd (dPickF (.t .z) rfl (.c rfl)) rfl rfl ?_
                    refine lRd (dMove (.t .z)) rfl rfl ?_
                    refine lPass rfl .z (nbT rfl) rfl ?_
                    refine lRd (dPickF (.t .z) rfl (.c rfl)) rfl rfl ?_
                    refine lRd (dMove (.t .z)) rfl rfl ?_
                    refine lPass rfl .z (nbT rfl) rfl ?_
                    refine lPass rfl .z (nbT rfl) rfl ?_
                    refine lPass rfl .z (nbT rfl) rfl ?_
                    refine lRd (dPickF (.t .z) rfl (.c rfl)) rfl rfl ?_
                    refine lRd (dMove (.t .z)) rfl rfl ?_
                    refine lPass rfl .z (nbT rfl) rfl ?_
                    refine lPass rfl .z (nbT rfl) rfl ?_
                    refine lPass rfl .z (nbT rfl) rfl ?_
                    refine lRd (dPickF (.t .z) rfl (.c rfl)) rfl rfl ?_
                    refine lRd (dMove (.t .z)) rfl rfl ?_
                    refine lPass rfl .z (nbT rfl) rfl ?_
                    refine lRd (dPickF (.t .z) rfl (.c rfl)) rfl rfl ?_
                    refine lRd (dMove (.t .z)) rfl rfl ?_
                    refine lPass rfl .z (nbT rfl) rfl ?_
                    refine lPass rfl .z (nbT rfl) rfl ?_
                    refine lRd (dPickF (.t .z) rfl (.c rfl)) rfl rfl ?_
                    refine lRd (dMove (.t .z)) rfl rfl ?_
                    refine lPass rfl .z (nbT rfl) rfl ?_
                    refine lRd (dPickF (.t .z) rfl (.c rfl)) rfl rfl ?_
                    refine lRd (dMove (.t .z)) rfl rfl ?_
                    refine lPass rfl .z (nbT rfl) rfl ?_
                    refine lPass rfl .z (nbT rfl) rfl ?_
                    refine lRd (dPickF (.t .z) rfl (.c rfl)) rfl rfl ?_
                    refine lRdK (dAssign (.t .z)) (.k (.k (.k (.k (.k (.k (.k (.k (.k (.k (.k (.k (.k (.k (.k (.k (.k (.k (.k (.k (.k (.k (.k (.k (.k (.k (.k (.k (.k (.k (.k (.k (.k (.k (.k (.k (.k (.k (.k (.k (.k (.k (.k (.k (.k (.k (.k (.k (.k (.k (.k (.k (.k (.k (.k (.k (.k (.k (.k (.k (.k (.k (.k (.k (.k (.d (Keep.refl _))))))))))))))))))))))))))))))))))))))))))))))))))))))))))))))))))) rfl rfl ?_
                    refine lKeep (.k .n) ?_
                    refine lNil ?_
                    refine xCode ?_
                    refine cRet ?_
                    exact rDone (rs := [.tmp 0]) rfl (.t .z .n) hD (.inl rfl) () rfl .nil
                · refine lPass rfl .z (nbT (decide_eq_false h64)) rfl ?_
                  refine lPass rfl .z (nbT (decide_eq_false h64)) rfl ?_
                  refine lRd (dPickF (.t .z) (decide_eq_false h64) (.c rfl)) rfl rfl ?_
                  refine lRd (dMove (.t .z)) rfl rfl ?_
                  refine lPass rfl .z (nbT rfl) rfl ?_
                  refine lPass rfl .z (nbT rfl) rfl ?_
                  refine lPass rfl .z (nbT rfl) rfl ?_
                  refine lRd (dPickF (.t .z) rfl (.c rfl)) rfl rfl ?_
                  refine lRd (dMove (.t .z)) rfl rfl ?_
                  refine lPass rfl .z (nbT rfl) rfl ?_
                  refine lPass rfl .z (nbT rfl) rfl ?_
                  refine lPass rfl .z (nbT rfl) rfl ?_
                  refine lRd (dPickF (.t .z) rfl (.c rfl)) rfl rfl ?_
                  refine lRd (dMove (.t .z)) rfl rfl ?_
                  refine lPass rfl .z (nbT rfl) rfl ?_
                  refine lPass rfl .z (nbT rfl) rfl ?_
                  refine lRd (dPickF (.t .z) rfl (.c rfl)) rfl rfl ?_
                  refine lRd (dMove (.t .z)) rfl rfl ?_
                  refine lPass rfl .z (nbT rfl) rfl ?_
                  refine lPass rfl .z (nbT rfl) rfl ?_
                  refine lPass rfl .z (nbT rfl) rfl ?_
                  refine lRd (dPickF (.t .z) rfl (.c rfl)) rfl rfl ?_
                  refine lRd (dMove (.t .z)) rfl rfl ?_
                  refine lPass rfl .z (nbT rfl) rfl ?_
                  refine lRd (dPickF (.t .z) rfl (.c rfl)) rfl rfl ?_
                  refine lRd (dMove (.t .z)) rfl rfl ?_
                  refine lPass rfl .z (nbT rfl) rfl ?_
                  refine lPass rfl .z (nbT rfl) rfl ?_
                  refine lPass rfl .z (nbT rfl) rfl ?_
                  refine lRd (dPickF (.t .z) rfl (.c rfl)) rfl rfl ?_
                  refine lRd (dMove (.t .z)) rfl rfl ?_
                  refine lPass rfl .z (nbT rfl) rfl ?_
                  refine lPass rfl .z (nbT rfl) rfl ?_
                  refine lPass rfl .z (nbT rfl) rfl ?_
                  refine lRd (dPickF (.t .z) rfl (.c rfl)) rfl rfl ?_
                  refine lRd (dMove (.t .z)) rfl rfl ?_
                  refine lPass rfl .z (nbT rfl) rfl ?_
                  refine lRd (dPickF (.t .z) rfl (.c rfl)) rfl rfl ?_
                  refine lRd (dMove (.t .z)) rfl rfl ?_
                  refine lPass rfl .z (nbT rfl) rfl ?_
                  refine lPass rfl .z (nbT rfl) rfl ?_
                  refine lRd (dPickF (.t .z) rfl (.c rfl)) rfl rfl ?_
                  refine lRd (dMove (.t .z)) rfl rfl ?_
                  refine lPass rfl .z (nbT rfl) rfl ?_
                  refine lRd (dPickF (.t .z) rfl (.c rfl)) rfl rfl ?_
                  refine lRd (dMove (.t .z)) rfl rfl ?_
                  refine lPass rfl .z (nbT rfl) rfl ?_
                  refine lPass rfl .z (nbT rfl) rfl ?_
                  refine lRd (dPickF (.t .z) rfl (.c rfl)) rfl rfl ?_
                  refine lRdK (dAssign (.t .z)) (.k (.k (.k (.k (.k (.k (.k (.k (.k (.k (.k (.k (.k (.k (.k (.k (.k (.k (.k (.k (.k (.k (.k (.k (.k (.k (.k (.k (.k (.k (.k (.k (.k (.k (.k (.k (.k (.k (.k (.k (.k (.k (.k (.k (.k (.k (.k (.k (.k (.k (.k (.k (.k (.k (.k (.k (.k (.k (.k (.k (.k (.k (.k (.d (Keep.refl _))))))))))))))))))))))))))))))))))))))))))))))))))))))))))))))))) rfl rfl ?_
                  refine lKeep (.k .n) ?_
                  refine lNil ?_
                  refine xCode ?_
                  refine cRet ?_
                  exact rDone (rs := [.tmp 0]) rfl (.t .z .n) hD (.inl rfl) () rfl .nil
              · refine lPass rfl .z (nbT (decide_eq_false h63)) rfl ?_
                refine lPass rfl .z (nbT (decide_eq_false h63)) rfl ?_
                refine lRd (dPickF (.t .z) (decide_eq_false h63) (.c rfl)) rfl rfl ?_
                refine lRd (dMove (.t .z)) rfl rfl ?_
                refine lPass rfl .z (nbT rfl) rfl ?_
                refine lPass rfl .z (nbT rfl) rfl ?_
                refine lRd (dPickF (.t .z) rfl (.c rfl)) rfl rfl ?_
                refine lRd (dMove (.t .z)) rfl rfl ?_
                refine lPass rfl .z (nbT rfl) rfl ?_
                refine lPass rfl .z (nbT rfl) rfl ?_
                refine lPass rfl .z (nbT rfl) rfl ?_
                refine lRd (dPickF (.t .z) rfl (.c rfl)) rfl rfl ?_
                refine lRd (dMove (.t .z)) rfl rfl ?_
                refine lPass rfl .z (nbT rfl) rfl ?_
                refine lPass rfl .z (nbT rfl) rfl ?_
                refine lPass rfl .z (nbT rfl) rfl ?_
                refine lRd (dPickF (.t .z) rfl (.c rfl)) rfl rfl ?_
                refine lRd (dMove (.t .z)) rfl rfl ?_
                refine lPass rfl .z (nbT rfl) rfl ?_
                refine lPass rfl .z (nbT rfl) rfl ?_
                refine lRd (dPickF (.t .z) rfl (.c rfl)) rfl rfl ?_
                refine lRd (dMove (.t .z)) rfl rfl ?_
                refine lPass rfl .z (nbT rfl) rfl ?_
                refine lPass rfl .z (nbT rfl) rfl ?_
                refine lPass rfl .z (nbT rfl) rfl ?_
                refine lRd (dPickF (.t .z) rfl (.c rfl)) rfl rfl ?_
                refine lRd (dMove (.t .z)) rfl rfl ?_
                refine lPass rfl .z (nbT rfl) rfl ?_
                refine lRd (dPickF (.t .z) rfl (.c rfl)) rfl rfl ?_
                refine lRd (dMove (.t .z)) rfl rfl ?_
                refine lPass rfl .z (nbT rfl) rfl ?_
                refine lPass rfl .z (nbT rfl) rfl ?_
                refine lPass rfl .z (nbT rfl) rfl ?_
                refine lRd (dPickF (.t .z) rfl (.c rfl)) rfl rfl ?_
                refine lRd (dMove (.t .z)) rfl rfl ?_
                refine lPass rfl .z (nbT rfl) rfl ?_
                refine lPass rfl .z (nbT rfl) rfl ?_
                refine lPass rfl .z (nbT rfl) rfl ?_
                refine lRd (dPickF (.t .z) rfl (.c rfl)) rfl rfl ?_
                refine lRd (dMove (.t .z)) rfl rfl ?_
                refine lPass rfl .z (nbT rfl) rfl ?_
                refine lRd (dPickF (.t .z) rfl (.c rfl)) rfl rfl ?_
                refine lRd (dMove (.t .z)) rfl rfl ?_
                refine lPass rfl .z (nbT rfl) rfl ?_
                refine lPass rfl .z (nbT rfl) rfl ?_
                refine lRd (dPickF (.t .z) rfl (.c rfl)) rfl rfl ?_
                refine lRd (dMove (.t .z)) rfl rfl ?_
                refine lPass rfl .z (nbT rfl) rfl ?_
                refine lRd (dPickF (.t .z) rfl (.c rfl)) rfl rfl ?_
                refine lRd (dMove (.t .z)) rfl rfl ?_
                refine lPass rfl .z (nbT rfl) rfl ?_
                refine lPass rfl .z (nbT rfl) rfl ?_
                refine lRd (dPickF (.t .z) rfl (.c rfl)) rfl rfl ?_
                refine lRdK (dAssign (.t .z)) (.k (.k (.k (.k (.k (.k (.k (.k (.k (.k (.k (.k (.k (.k (.k (.k (.k (.k (.k (.k (.k (.k (.k (.k (.k (.k (.k (.k (.k (.k (.k (.k (.k (.k (.k (.k (.k (.k (.k (.k (.k (.k (.k (.k (.k (.k (.k (.k (.k (.k (.k (.k (.k (.k (.k (.k (.k (.k (.k (.k (.k (.d (Keep.refl _))))))))))))))))))))))))))))))))))))))))))))))))))))))))))))))) rfl rfl ?_
                refine lKeep (.k .n) ?_
                refine lNil ?_
                refine xCode ?_
                refine cRet ?_
                exact rDone (rs := [.tmp 0]) rfl (.t .z .n) hD (.inl rfl) () rfl .nil
            · refine lPass rfl .z (nbT (Bool.eq_false_iff.mpr h62)) rfl ?_
              refine lPass rfl .z (nbT (Bool.eq_false_iff.mpr h62)) rfl ?_
              refine lRd (dPickF (.t .z) (Bool.eq_false_iff.mpr h62) (.c rfl)) rfl rfl ?_
              refine lRd (dMove (.t .z)) rfl rfl ?_
              refine lPass rfl .z (nbT rfl) rfl ?_
              refine lPass rfl .z (nbT rfl) rfl ?_
              refine lRd (dPickF (.t .z) rfl (.c rfl)) rfl rfl ?_
              refine lRd (dMove (.t .z)) rfl rfl ?_
              refine lPass rfl .z (nbT rfl) rfl ?_
              refine lPass rfl .z (nbT rfl) rfl ?_
              refine lRd (dPickF (.t .z) rfl (.c rfl)) rfl rfl ?_
              refine lRd (dMove (.t .z)) rfl rfl ?_
              refine lPass rfl .z (nbT rfl) rfl ?_
              refine lPass rfl .z (nbT rfl) rfl ?_
              refine lPass rfl .z (nbT rfl) rfl ?_
              refine lRd (dPickF (.t .z) rfl (.c rfl)) rfl rfl ?_
              refine lRd (dMove (.t .z)) rfl rfl ?_
              refine lPass rfl .z (nbT rfl) rfl ?_
              refine lPass rfl .z (nbT rfl) rfl ?_
              refine lPass rfl .z (nbT rfl) rfl ?_
              refine lRd (dPickF (.t .z) rfl (.c rfl)) rfl rfl ?_
              refine lRd (dMove (.t .z)) rfl rfl ?_
              refine lPass rfl .z (nbT rfl) rfl ?_
              refine lPass rfl .z (nbT rfl) rfl ?_
              refine lRd (dPickF (.t .z) rfl (.c rfl)) rfl rfl ?_
              refine lRd (dMove (.t .z)) rfl rfl ?_
              refine lPass rfl .z (nbT rfl) rfl ?_
              refine lPass rfl .z (nbT rfl) rfl ?_
              refine lPass rfl .z (nbT rfl) rfl ?_
              refine lRd (dPickF (.t .z) rfl (.c rfl)) rfl rfl ?_
              refine lRd (dMove (.t .z)) rfl rfl ?_
              refine lPass rfl .z (nbT rfl) rfl ?_
              refine lRd (dPickF (.t .z) rfl (.c rfl)) rfl rfl ?_
              refine lRd (dMove (.t .z)) rfl rfl ?_
              refine lPass rfl .z (nbT rfl) rfl ?_
              refine lPass rfl .z (nbT rfl) rfl ?_
              refine lPass rfl .z (nbT rfl) rfl ?_
              refine lRd (dPickF (.t .z) rfl (.c rfl)) rfl rfl ?_
              refine lRd (dMove (.t .z)) rfl rfl ?_
              refine lPass rfl .z (nbT rfl) rfl ?_
              refine lPass rfl .z (nbT rfl) rfl ?_
              refine lPass rfl .z (nbT rfl) rfl ?_
              refine lRd (dPickF (.t .z) rfl (.c rfl)) rfl rfl ?_
              refine lRd (dMove (.t .z)) rfl rfl ?_
              refine lPass rfl .z (nbT rfl) rfl ?_
              refine lRd (dPickF (.t .z) rfl (.c rfl)) rfl rfl ?_
              refine lRd (dMove (.t .z)) rfl rfl ?_
              refine lPass rfl .z (nbT rfl) rfl ?_
              refine lPass rfl .z (nbT rfl) rfl ?_
              refine lRd (dPickF (.t .z) rfl (.c rfl)) rfl rfl ?_
              refine lRd (dMove (.t .z)) rfl rfl ?_
              refine lPass rfl .z (nbT rfl) rfl ?_
              refine lRd (dPickF (.t .z) rfl (.c rfl)) rfl rfl ?_
              refine lRd (dMove (.t .z)) rfl rfl ?_
              refine lPass rfl .z (nbT rfl) rfl ?_
              refine lPass rfl .z (nbT rfl) rfl ?_
              refine lRd (dPickF (.t .z) rfl (.c rfl)) rfl rfl ?_
              refine lRdK (dAssign (.t .z)) (.k (.k (.k (.k (.k (.k (.k (.k (.k (.k (.k (.k (.k (.k (.k (.k (.k (.k (.k (.k (.k (.k (.k (.k (.k (.k (.k (.k (.k (.k (.k (.k (.k (.k (.k (.k (.k (.k (.k (.k (.k (.k (.k (.k (.k (.k (.k (.k (.k (.k (.k (.k (.k (.k (.k (.k (.k (.k (.k (.d (Keep.refl _))))))))))))))))))))))))))))))))))))))))))))))))))))))))))))) rfl rfl ?_
              refine lKeep (.k .n) ?_
              refine lNil ?_
              refine xCode ?_
              refine cRet ?_
              exact rDone (rs := [.tmp 0]) rfl (.t .z .n) hD (.inl rfl) () rfl .nil
          · refine lPass rfl .z (nbT (Bool.eq_false_iff.mpr h61)) rfl ?_
            refine lRd (dPickF (.t .z) (Bool.eq_false_iff.mpr h61) (.c rfl)) rfl rfl ?_
            refine lRd (dMove (.t .z)) rfl rfl ?_
            refine lPass rfl .z (nbT rfl) rfl ?_
            refine lPass rfl .z (nbT rfl) rfl ?_
            refine lRd (dPickF (.t .z) rfl (.c rfl)) rfl rfl ?_
            refine lRd (dMove (.t .z)) rfl rfl ?_
            refine lPass rfl .z (nbT rfl) rfl ?_
            refine lPass rfl .z (nbT rfl) rfl ?_
            refine lRd (dPickF (.t .z) rfl (.c rfl)) rfl rfl ?_
            refine lRd (dMove (.t .z)) rfl rfl ?_
            refine lPass rfl .z (nbT rfl) rfl ?_
            refine lPass rfl .z (nbT rfl) rfl ?_
            refine lRd (dPickF (.t .z) rfl (.c rfl)) rfl rfl ?_
            refine lRd (dMove (.t .z)) rfl rfl ?_
            refine lPass rfl .z (nbT rfl) rfl ?_
            refine lPass rfl .z (nbT rfl) rfl ?_
            refine lPass rfl .z (nbT rfl) rfl ?_
            refine lRd (dPickF (.t .z) rfl (.c rfl)) rfl rfl ?_
            refine lRd (dMove (.t .z)) rfl rfl ?_
            refine lPass rfl .z (nbT rfl) rfl ?_
            refine lPass rfl .z (nbT rfl) rfl ?_
            refine lPass rfl .z (nbT rfl) rfl ?_
            refine lRd (dPickF (.t .z) rfl (.c rfl)) rfl rfl ?_
            refine lRd (dMove (.t .z)) rfl rfl ?_
            refine lPass rfl .z (nbT rfl) rfl ?_
            refine lPass rfl .z (nbT rfl) rfl ?_
            refine lRd (dPickF (.t .z) rfl (.c rfl)) rfl rfl ?_
            refine lRd (dMove (.t .z)) rfl rfl ?_
            refine lPass rfl .z (nbT rfl) rfl ?_
            refine lPass rfl .z (nbT rfl) rfl ?_
            refine lPass rfl .z (nbT rfl) rfl ?_
            refine lRd (dPickF (.t .z) rfl (.c rfl)) rfl rfl ?_
            refine lRd (dMove (.t .z)) rfl rfl ?_
            refine lPass rfl .z (nbT rfl) rfl ?_
            refine lRd (dPickF (.t .z) rfl (.c rfl)) rfl rfl ?_
            refine lRd (dMove (.t .z)) rfl rfl ?_
            refine lPass rfl .z (nbT rfl) rfl ?_
            refine lPass rfl .z (nbT rfl) rfl ?_
            refine lPass rfl .z (nbT rfl) rfl ?_
            refine lRd (dPickF (.t .z) rfl (.c rfl)) rfl rfl ?_
            refine lRd (dMove (.t .z)) rfl rfl ?_
            refine lPass rfl .z (nbT rfl) rfl ?_
            refine lPass rfl .z (nbT rfl) rfl ?_
            refine lPass rfl .z (nbT rfl) rfl ?_
            refine lRd (dPickF (.t .z) rfl (.c rfl)) rfl rfl ?_
            refine lRd (dMove (.t .z)) rfl rfl ?_
            refine lPass rfl .z (nbT rfl) rfl ?_
            refine lRd (dPickF (.t .z) rfl (.c rfl)) rfl rfl ?_
            refine lRd (dMove (.t .z)) rfl rfl ?_
            refine lPass rfl .z (nbT rfl) rfl ?_
            refine lPass rfl .z (nbT rfl) rfl ?_
            refine lRd (dPickF (.t .z) rfl (.c rfl)) rfl rfl ?_
            refine lRd (dMove (.t .z)) rfl rfl ?_
            refine lPass rfl .z (nbT rfl) rfl ?_
            refine lRd (dPickF (.t .z) rfl (.c rfl)) rfl rfl ?_
            refine lRd (dMove (.t .z)) rfl rfl ?_
            refine lPass rfl .z (nbT rfl) rfl ?_
            refine lPass rfl .z (nbT rfl) rfl ?_
            refine lRd (dPickF (.t .z) rfl (.c rfl)) rfl rfl ?_
            refine lRdK (dAssign (.t .z)) (.k (.k (.k (.k (.k (.k (.k (.k (.k (.k (.k (.k (.k (.k (.k (.k (.k (.k (.k (.k (.k (.k (.k (.k (.k (.k (.k (.k (.k (.k (.k (.k (.k (.k (.k (.k (.k (.k (.k (.k (.k (.k (.k (.k (.k (.k (.k (.k (.k (.k (.k (.k (.k (.k (.k (.k (.k (.k (.d (Keep.refl _)))))))))))))))))))))))))))))))))))))))))))))))))))))))))))) rfl rfl ?_
            refine lKeep (.k .n) ?_
            refine lNil ?_
            refine xCode ?_
            refine cRet ?_
            exact rDone (rs := [.tmp 0]) rfl (.t .z .n) hD (.inl rfl) () rfl .nil
        · refine lPass rfl .z (nbT (decide_eq_false h60)) rfl ?_
          refine lRd (dPickF (.t .z) (decide_eq_false h60) (.c rfl)) rfl rfl ?_
          refine lRd (dMove (.t .z)) rfl rfl ?_
          refine lPass rfl .z (nbT rfl) rfl ?_
          refine lRd (dPickF (.t .z) rfl (.c rfl)) rfl rfl ?_
          refine lRd (dMove (.t .z)) rfl rfl ?_
          refine lPass rfl .z (nbT rfl) rfl ?_
          refine lPass rfl .z (nbT rfl) rfl ?_
          refine lRd (dPickF (.t .z) rfl (.c rfl)) rfl rfl ?_
          refine lRd (dMove (.t .z)) rfl rfl ?_
          refine lPass rfl .z (nbT rfl) rfl ?_
          refine lPass rfl .z (nbT rfl) rfl ?_
          refine lRd (dPickF (.t .z) rfl (.c rfl)) rfl rfl ?_
          refine lRd (dMove (.t .z)) rfl rfl ?_
          refine lPass rfl .z (nbT rfl) rfl ?_
          refine lPass rfl .z (nbT rfl) rfl ?_
          refine lRd (dPickF (.t .z) rfl (.c rfl)) rfl rfl ?_
          refine lRd (dMove (.t .z)) rfl rfl ?_
          refine lPass rfl .z (nbT rfl) rfl ?_
          refine lPass rfl .z (nbT rfl) rfl ?_
          refine lPass rfl .z (nbT rfl) rfl ?_
          refine lRd (dPickF (.t .z) rfl (.c rfl)) rfl rfl ?_
          refine lRd (dMove (.t .z)) rfl rfl ?_
          refine lPass rfl .z (nbT rfl) rfl ?_
          refine lPass rfl .z (nbT rfl) rfl ?_
          refine lPass rfl .z (nbT rfl) rfl ?_
          refine lRd (dPickF (.t .z) rfl (.c rfl)) rfl rfl ?_
          refine lRd (dMove (.t .z)) rfl rfl ?_
          refine lPass rfl .z (nbT rfl) rfl ?_
          refine lPass rfl .z (nbT rfl) rfl ?_
          refine lRd (dPickF (.t .z) rfl (.c rfl)) rfl rfl ?_
          refine lRd (dMove (.t .z)) rfl rfl ?_
          refine lPass rfl .z (nbT rfl) rfl ?_
          refine lPass rfl .z (nbT rfl) rfl ?_
          refine lPass rfl .z (nbT rfl) rfl ?_
          refine lRd (dPickF (.t .z) rfl (.c rfl)) rfl rfl ?_
          refine lRd (dMove (.t .z)) rfl rfl ?_
          refine lPass rfl .z (nbT rfl) rfl ?_
          refine lRd (dPickF (.t .z) rfl (.c rfl)) rfl rfl ?_
          refine lRd (dMove (.t .z)) rfl rfl ?_
          refine lPass rfl .z (nbT rfl) rfl ?_
          refine lPass rfl .z (nbT rfl) rfl ?_
          refine lPass rfl .z (nbT rfl) rfl ?_
          refine lRd (dPickF (.t .z) rfl (.c rfl)) rfl rfl ?_
          refine lRd (dMove (.t .z)) rfl rfl ?_
          refine lPass rfl .z (nbT rfl) rfl ?_
          refine lPass rfl .z (nbT rfl) rfl ?_
          refine lPass rfl .z (nbT rfl) rfl ?_
          refine lRd (dPickF (.t .z) rfl (.c rfl)) rfl rfl ?_
          refine lRd (dMove (.t .z)) rfl rfl ?_
          refine lPass rfl .z (nbT rfl) rfl ?_
          refine lRd (dPickF (.t .z) rfl (.c rfl)) rfl rfl ?_
          refine lRd (dMove (.t .z)) rfl rfl ?_
          refine lPass rfl .z (nbT rfl) rfl ?_
          refine lPass rfl .z (nbT rfl) rfl ?_
          refine lRd (dPickF (.t .z) rfl (.c rfl)) rfl rfl ?_
          refine lRd (dMove (.t .z)) rfl rfl ?_
          refine lPass rfl .z (nbT rfl) rfl ?_
          refine lRd (dPickF (.t .z) rfl (.c rfl)) rfl rfl ?_
          refine lRd (dMove (.t .z)) rfl rfl ?_
          refine lPass rfl .z (nbT rfl) rfl ?_
          refine lPass rfl .z (nbT rfl) rfl ?_
          refine lRd (dPickF (.t .z) rfl (.c rfl)) rfl rfl ?_
          refine lRdK (dAssign (.t .z)) (.k (.k (.k (.k (.k (.k (.k (.k (.k (.k (.k (.k (.k (.k (.k (.k (.k (.k (.k (.k (.k (.k (.k (.k (.k (.k (.k (.k (.k (.k (.k (.k (.k (.k (.k (.k (.k (.k (.k (.k (.k (.k (.k (.k (.k (.k (.k (.k (.k (.k (.k (.k (.k (.k (.k (.k (.k (.d (Keep.refl _))))))))))))))))))))))))))))))))))))))))))))))))))))))))))) rfl rfl ?_
          refine lKeep (.k .n) ?_
          refine lNil ?_
          refine xCode ?_
          refine cRet ?_
          exact rDone (rs := [.tmp 0]) rfl (.t .z .n) hD (.inl rfl) () rfl .nil
      · refine lPass rfl .z (nbT (decide_eq_false h53)) rfl ?_
        refine lPass rfl .z (nbT (decide_eq_false h53)) rfl ?_
        refine lPass rfl .z (nbT (decide_eq_false h53)) rfl ?_
        refine lPass rfl .z (nbT (decide_eq_false h53)) rfl ?_
        refine lPass rfl .z (nbT (decide_eq_false h53)) rfl ?_
        refine lRd (dPickF (.t .z) (decide_eq_false h53) (.c rfl)) rfl rfl ?_
        refine lRd (dMove (.t .z)) rfl rfl ?_
        refine lPass rfl .z (nbT rfl) rfl ?_
        refine lRd (dPickF (.t .z) rfl (.c rfl)) rfl rfl ?_
        refine lRd (dMove (.t .z)) rfl rfl ?_
        refine lPass rfl .z (nbT rfl) rfl ?_
        refine lRd (dPickF (.t .z) rfl (.c rfl)) rfl rfl ?_
        refine lRd (dMove (.t .z)) rfl rfl ?_
        refine lPass rfl .z (nbT rfl) rfl ?_
        refine lPass rfl .z (nbT rfl) rfl ?_
        refine lRd (dPickF (.t .z) rfl (.c rfl)) rfl rfl ?_
        refine lRd (dMove (.t .z)) rfl rfl ?_
        refine lPass rfl .z (nbT rfl) rfl ?_
        refine lPass rfl .z (nbT rfl) rfl ?_
        refine lRd (dPickF (.t .z) rfl (.c rfl)) rfl rfl ?_
        refine lRd (dMove (.t .z)) rfl rfl ?_
        refine lPass rfl .z (nbT rfl) rfl ?_
        refine lPass rfl .z (nbT rfl) rfl ?_
        refine lRd (dPickF (.t .z) rfl (.c rfl)) rfl rfl ?_
        refine lRd (dMove (.t .z)) rfl rfl ?_
        refine lPass rfl .z (nbT rfl) rfl ?_
        refine lPass rfl .z (nbT rfl) rfl ?_
        refine lPass rfl .z (nbT rfl) rfl ?_
        refine lRd (dPickF (.t .z) rfl (.c rfl)) rfl rfl ?_
        refine lRd (dMove (.t .z)) rfl rfl ?_
        refine lPass rfl .z (nbT rfl) rfl ?_
        refine lPass rfl .z (nbT rfl) rfl ?_
        refine lPass rfl .z (nbT rfl) rfl ?_
        refine lRd (dPickF (.t .z) rfl (.c rfl)) rfl rfl ?_
        refine lRd (dMove (.t .z)) rfl rfl ?_
        refine lPass rfl .z (nbT rfl) rfl ?_
        refine lPass rfl .z (nbT rfl) rfl ?_
        refine lRd (dPickF (.t .z) rfl (.c rfl)) rfl rfl ?_
        refine lRd (dMove (.t .z)) rfl rfl ?_
        refine lPass rfl .z (nbT rfl) rfl ?_
        refine lPass rfl .z (nbT rfl) rfl ?_
        refine lPass rfl .z (nbT rfl) rfl ?_
        refine lRd (dPickF (.t .z) rfl (.c rfl)) rfl rfl ?_
        refine lRd (dMove (.t .z)) rfl rfl ?_
        refine lPass rfl .z (nbT rfl) rfl ?_
        refine lRd (dPickF (.t .z) rfl (.c rfl)) rfl rfl ?_
        refine lRd (dMove (.t .z)) rfl rfl ?_
        refine lPass rfl .z (nbT rfl) rfl ?_
        refine lPass rfl .z (nbT rfl) rfl ?_
        refine lPass rfl .z (nbT rfl) rfl ?_
        refine lRd (dPickF (.t .z) rfl (.c rfl)) rfl rfl ?_
        refine lRd (dMove (.t .z)) rfl rfl ?_
        refine lPass rfl .z (nbT rfl) rfl ?_
        refine lPass rfl .z (nbT rfl) rfl ?_
        refine lPass rfl .z (nbT rfl) rfl ?_
        refine lRd (dPickF (.t .z) rfl (.c rfl)) rfl rfl ?_
        refine lRd (dMove (.t .z)) rfl rfl ?_
        refine lPass rfl .z (nbT rfl) rfl ?_
        refine lRd (dPickF (.t .z) rfl (.c rfl)) rfl rfl ?_
        refine lRd (dMove (.t .z)) rfl rfl ?_
        refine lPass rfl .z (nbT rfl) rfl ?_
        refine lPass rfl .z (nbT rfl) rfl ?_
        refine lRd (dPickF (.t .z) rfl (.c rfl)) rfl rfl ?_
        refine lRd (dMove (.t .z)) rfl rfl ?_
        refine lPass rfl .z (nbT rfl) rfl ?_
        refine lRd (dPickF (.t .z) rfl (.c rfl)) rfl rfl ?_
        refine lRd (dMove (.t .z)) rfl rfl ?_
        refine lPass rfl .z (nbT rfl) rfl ?_
        refine lPass rfl .z (nbT rfl) rfl ?_
        refine lRd (dPickF (.t .z) rfl (.c rfl)) rfl rfl ?_
        refine lRdK (dAssign (.t .z)) (.k (.k (.k (.k (.k (.k (.k (.k (.k (.k (.k (.k (.k (.k (.k (.k (.k (.k (.k (.k (.k (.k (.k (.k (.k (.k (.k (.k (.k (.k (.k (.k (.k (.k (.k (.k (.k (.k (.k (.k (.k (.k (.k (.k (.k (.k (.k (.k (.k (.k (.k (.k (.d (Keep.refl _)))))))))))))))))))))))))))))))))))))))))))))))))))))) rfl rfl ?_
        refine lKeep (.k .n) ?_
        refine lNil ?_
        refine xCode ?_
        refine cRet ?_
        exact rDone (rs := [.tmp 0]) rfl (.t .z .n) hD (.inl rfl) () rfl .nil
    · refine lPass rfl .z (nbT (decide_eq_false h52)) rfl ?_
      refine lPass rfl .z (nbT (decide_eq_false h52)) rfl ?_
      refine lRd (dPickF (.t .z) (decide_eq_false h52) (.c rfl)) rfl rfl ?_
      refine lRd (dMove (.t .z)) rfl rfl ?_
      refine lPass rfl .z (nbT rfl) rfl ?_
      refine lPass rfl .z (nbT rfl) rfl ?_
      refine lPass rfl .z (nbT rfl) rfl ?_
      refine lPass rfl .z (nbT rfl) rfl ?_
      refine lPass rfl .z (nbT rfl) rfl ?_
      refine lRd (dPickF (.t .z) rfl (.c rfl)) rfl rfl ?_
      refine lRd (dMove (.t .z)) rfl rfl ?_
      refine lPass rfl .z (nbT rfl) rfl ?_
      refine lRd (dPickF (.t .z) rfl (.c rfl)) rfl rfl ?_
      refine lRd (dMove (.t .z)) rfl rfl ?_
      refine lPass rfl .z (nbT rfl) rfl ?_
      refine lRd (dPickF (.t .z) rfl (.c rfl)) rfl rfl ?_
      refine lRd (dMove (.t .z)) rfl rfl ?_
      refine lPass rfl .z (nbT rfl) rfl ?_
      refine lPass rfl .z (nbT rfl) rfl ?_
      refine lRd (dPickF (.t .z) rfl (.c rfl)) rfl rfl ?_
      refine lRd (dMove (.t .z)) rfl rfl ?_
      refine lPass rfl .z (nbT rfl) rfl ?_
      refine lPass rfl .z (nbT rfl) rfl ?_
      refine lRd (dPickF (.t .z) rfl (.c rfl)) rfl rfl ?_
      refine lRd (dMove (.t .z)) rfl rfl ?_
      refine lPass rfl .z (nbT rfl) rfl ?_
      refine lPass rfl .z (nbT rfl) rfl ?_
      refine lRd (dPickF (.t .z) rfl (.c rfl)) rfl rfl ?_
      refine lRd (dMove (.t .z)) rfl rfl ?_
      refine lPass rfl .z (nbT rfl) rfl ?_
      refine lPass rfl .z (nbT rfl) rfl ?_
      refine lPass rfl .z (nbT rfl) rfl ?_
      refine lRd (dPickF (.t .z) rfl (.c rfl)) rfl rfl ?_
      refine lRd (dMove (.t .z)) rfl rfl ?_
      refine lPass rfl .z (nbT rfl) rfl ?_
      refine lPass rfl .z (nbT rfl) rfl ?_
      refine lPass rfl .z (nbT rfl) rfl ?_
      refine lRd (dPickF (.t .z) rfl (.c rfl)) rfl rfl ?_
      refine lRd (dMove (.t .z)) rfl rfl ?_
      refine lPass rfl .z (nbT rfl) rfl ?_
      refine lPass rfl .z (nbT rfl) rfl ?_
      refine lRd (dPickF (.t .z) rfl (.c rfl)) rfl rfl ?_
      refine lRd (dMove (.t .z)) rfl rfl ?_
      refine lPass rfl .z (nbT rfl) rfl ?_
      refine lPass rfl .z (nbT rfl) rfl ?_
      refine lPass rfl .z (nbT rfl) rfl ?_
      refine lRd (dPickF (.t .z) rfl (.c rfl)) rfl rfl ?_
      refine lRd (dMove (.t .z)) rfl rfl ?_
      refine lPass rfl .z (nbT rfl) rfl ?_
      refine lRd (dPickF (.t .z) rfl (.c rfl)) rfl rfl ?_
      refine lRd (dMove (.t .z)) rfl rfl ?_
      refine lPass rfl .z (nbT rfl) rfl ?_
      refine lPass rfl .z (nbT rfl) rfl ?_
      refine lPass rfl .z (nbT rfl) rfl ?_
      refine lRd (dPickF (.t .z) rfl (.c rfl)) rfl rfl ?_
      refine lRd (dMove (.t .z)) rfl rfl ?_
      refine lPass rfl .z (nbT rfl) rfl ?_
      refine lPass rfl .z (nbT rfl) rfl ?_
      refine lPass rfl .z (nbT rfl) rfl ?_
      refine lRd (dPickF (.t .z) rfl (.c rfl)) rfl rfl ?_
      refine lRd (dMove (.t .z)) rfl rfl ?_
      refine lPass rfl .z (nbT rfl) rfl ?_
      refine lRd (dPickF (.t .z) rfl (.c rfl)) rfl rfl ?_
      refine lRd (dMove (.t .z)) rfl rfl ?_
      refine lPass rfl .z (nbT rfl) rfl ?_
      refine lPass rfl .z (nbT rfl) rfl ?_
      refine lRd (dPickF (.t .z) rfl (.c rfl)) rfl rfl ?_
      refine lRd (dMove (.t .z)) rfl rfl ?_
      refine lPass rfl .z (nbT rfl) rfl ?_
      refine lRd (dPickF (.t .z) rfl (.c rfl)) rfl rfl ?_
      refine lRd (dMove (.t .z)) rfl rfl ?_
      refine lPass rfl .z (nbT rfl) rfl ?_
      refine lPass rfl .z (nbT rfl) rfl ?_
      refine lRd (dPickF (.t .z) rfl (.c rfl)) rfl rfl ?_
      refine lRdK (dAssign (.t .z)) (.k (.k (.k (.k (.k (.k (.k (.k (.k (.k (.k (.k (.k (.k (.k (.k (.k (.k (.k (.k (.k (.k (.k (.k (.k (.k (.k (.k (.k (.k (.k (.k (.k (.k (.k (.k (.k (.k (.k (.k (.k (.k (.k (.k (.k (.k (.k (.k (.k (.k (.d (Keep.refl _)))))))))))))))))))))))))))))))))))))))))))))))))))) rfl rfl ?_
      refine lKeep (.k .n) ?_
      refine lNil ?_
      refine xCode ?_
      refine cRet ?_
      exact rDone (rs := [.tmp 0]) rfl (.t .z .n) hD (.inl rfl) () rfl .nil

-- greenscreen/greenscreenref22.Attention
def ref22_Attention_l1 (K : Nat) (a0 : UInt8) : Nat → (Int) → Option (Sum (Unit) ((List UInt8)))
  | 0, _ => none
  | n + 1, s3 => (if s3 < (([(125 : UInt8), (109 : UInt8), (108 : UInt8), (110 : UInt8), (107 : UInt8), (241 : UInt8), (242 : UInt8), (243 : UInt8), (244 : UInt8), (245 : UInt8), (246 : UInt8), (247 : UInt8), (248 : UInt8), (249 : UInt8), (122 : UInt8), (123 : UInt8), (124 : UInt8), (193 : UInt8), (194 : UInt8), (195 : UInt8), (196 : UInt8), (197 : UInt8), (198 : UInt8), (199 : UInt8), (200 : UInt8), (201 : UInt8), (74 : UInt8), (75 : UInt8), (76 : UInt8)] : List UInt8).length : Int) then ((ix ([(125 : UInt8), (109 : UInt8), (108 : UInt8), (110 : UInt8), (107 : UInt8), (241 : UInt8), (242 : UInt8), (243 : UInt8), (244 : UInt8), (245 : UInt8), (246 : UInt8), (247 : UInt8), (248 : UInt8), (249 : UInt8), (122 : UInt8), (123 : UInt8), (124 : UInt8), (193 : UInt8), (194 : UInt8), (195 : UInt8), (196 : UInt8), (197 : UInt8), (198 : UInt8), (199 : UInt8), (200 : UInt8), (201 : UInt8), (74 : UInt8), (75 : UInt8), (76 : UInt8)] : List UInt8) s3).bind fun y9 => (if y9 = a0 then some ((decide (s3 < 5)), (decide (y9 = a0)), (decide (y9 = a0)), y9) else some (false, (decide (y9 = a0)), (decide (y9 = a0)), y9))).bind fun (s13 : Bool × Bool × Bool × UInt8) => (if s13.1 = true then (ix ([([69, 78, 84, 69, 82] : List UInt8), ([67, 76, 69, 65, 82] : List UInt8), ([80, 65, 49] : List UInt8), ([80, 65, 50] : List UInt8), ([80, 65, 51] : List UInt8)] : List (List UInt8)) s3).bind fun y16 => some (Sum.inr y16) else (ix ([(125 : UInt8), (109 : UInt8), (108 : UInt8), (110 : UInt8), (107 : UInt8), (241 : UInt8), (242 : UInt8), (243 : UInt8), (244 : UInt8), (245 : UInt8), (246 : UInt8), (247 : UInt8), (248 : UInt8), (249 : UInt8), (122 : UInt8), (123 : UInt8), (124 : UInt8), (193 : UInt8), (194 : UInt8), (195 : UInt8), (196 : UInt8), (197 : UInt8), (198 : UInt8), (199 : UInt8), (200 : UInt8), (201 : UInt8), (74 : UInt8), (75 : UInt8), (76 : UInt8)] : List UInt8) s3).bind fun y19 => (if y19 = a0 then (strconv_Itoa_m (w64 (s3 - 4))).bind fun o23 => (cat ([80, 70] : List UInt8) o23).bind fun r26 => some (Sum.inr r26) else (ref22_Attention_l1 K a0 n) (w64 (s3 + 1)))) else some (Sum.inl ()))
def ref22_Attention_m (K : Nat) (a0 : UInt8) : Option ((List UInt8)) := (ref22_Attention_l1 K a0 K 0).bind (onS fun (s28 : Unit) => some ([] : List UInt8))
theorem ref22_Attention_c (K : Nat) (a0 : UInt8) : Con Tryz.prog 11 #[vB a0] [] (ref22_Attention_m K a0) (fun (o : (List UInt8)) (x : Unit) => vS o) (fun (o : (List UInt8)) (x : Unit) => []) := by
  unfold ref22_Attention_m
  refine con (args := [vB a0]) Tryz.func11 rfl 38 rfl (.c .n) rfl fun c hD => ?_
  refine cSeq ?_
  refine cRegion ?_
  refine lRd (dAssign (.c (v' := vS ([] : List UInt8)) rfl)) rfl rfl ?_
  refine lNil ?_
  refine xCode ?_
  refine cSeq ?_
  refine cRegion ?_
  refine lCh (cBuildSliceN (te := 5) (k := kB) (us := [vB (125 : UInt8), vB (109 : UInt8), vB (108 : UInt8), vB (110 : UInt8), vB (107 : UInt8), vB (241 : UInt8), vB (242 : UInt8), vB (243 : UInt8), vB (244 : UInt8), vB (245 : UInt8), vB (246 : UInt8), vB (247 : UInt8), vB (248 : UInt8), vB (249 : UInt8), vB (122 : UInt8), vB (123 : UInt8), vB (124 : UInt8), vB (193 : UInt8), vB (194 : UInt8), vB (195 : UInt8), vB (196 : UInt8), vB (197 : UInt8), vB (198 : UInt8), vB (199 : UInt8), vB (200 : UInt8), vB (201 : UInt8), vB (74 : UInt8), vB (75 : UInt8), vB (76 : UInt8)]) (css := [[vB (125 : UInt8)], [vB (109 : UInt8)], [vB (108 : UInt8)], [vB (110 : UInt8)], [vB (107 : UInt8)], [vB (241 : UInt8)], [vB (242 : UInt8)], [vB (243 : UInt8)], [vB (244 : UInt8)], [vB (245 : UInt8)], [vB (246 : UInt8)], [vB (247 : UInt8)], [vB (248 : UInt8)], [vB (249 : UInt8)], [vB (122 : UInt8)], [vB (123 : UInt8)], [vB (124 : UInt8)], [vB (193 : UInt8)], [vB (194 : UInt8)], [vB (195 : UInt8)], [vB (196 : UInt8)], [vB (197 : UInt8)], [vB (198 : UInt8)], [vB (199 : UInt8)], [vB (200 : UInt8)], [vB (201 : UInt8)], [vB (74 : UInt8)], [vB (75 : UInt8)], [vB (76 : UInt8)]]) (xs := ([(125 : UInt8), (109 : UInt8), (108 : UInt8), (110 : UInt8), (107 : UInt8), (241 : UInt8), (242 : UInt8), (243 : UInt8), (244 : UInt8), (245 : UInt8), (246 : UInt8), (247 : UInt8), (248 : UInt8), (249 : UInt8), (122 : UInt8), (123 : UInt8), (124 : UInt8), (193 : UInt8), (194 : UInt8), (195 : UInt8), (196 : UInt8), (197 : UInt8), (198 : UInt8), (199 : UInt8), (200 : UInt8), (201 : UInt8), (74 : UInt8), (75 : UInt8), (76 : UInt8)] : List UInt8)) und_49 siz_5 zer_5 rfl (by decide) rfl (.c (.c (v' := vB 125) rfl) (.c (.c (v' := vB 109) rfl) (.c (.c (v' := vB 108) rfl) (.c (.c (v' := vB 110) rfl) (.c (.c (v' := vB 107) rfl) (.c (.c (v' := vB 241) rfl) (.c (.c (v' := vB 242) rfl) (.c (.c (v' := vB 243) rfl) (.c (.c (v' := vB 244) rfl) (.c (.c (v' := vB 245) rfl) (.c (.c (v' := vB 246) rfl) (.c (.c (v' := vB 247) rfl) (.c (.c (v' := vB 248) rfl) (.c (.c (v' := vB 249) rfl) (.c (.c (v' := vB 122) rfl) (.c (.c (v' := vB 123) rfl) (.c (.c (v' := vB 124) rfl) (.c (.c (v' := vB 193) rfl) (.c (.c (v' := vB 194) rfl) (.c (.c (v' := vB 195) rfl) (.c (.c (v' := vB 196) rfl) (.c (.c (v' := vB 197) rfl) (.c (.c (v' := vB 198) rfl) (.c (.c (v' := vB 199) rfl) (.c (.c (v' := vB 200) rfl) (.c (.c (v' := vB 201) rfl) (.c (.c (v' := vB 74) rfl) (.c (.c (v' := vB 75) rfl) (.c (.c (v' := vB 76) rfl) .n))))))))))))))))))))))))))))) rfl rfl rfl rfl (fun _ _ _ => (.cons rfl (.cons rfl (.cons rfl (.cons rfl (.cons rfl (.cons rfl (.cons rfl (.cons rfl (.cons rfl (.cons rfl (.cons rfl (.cons rfl (.cons rfl (.cons rfl (.cons rfl (.cons rfl (.cons rfl (.cons rfl (.cons rfl (.cons rfl (.cons rfl (.cons rfl (.cons rfl (.cons rfl (.cons rfl (.cons rfl (.cons rfl (.cons rfl (.cons rfl .nil))))))))))))))))))))))))))))))) rfl rfl fun b1 => ?_
  refine lRd (dAssign (.t .z)) rfl rfl ?_
  refine lKeep (.k (.d (.k (.k .n)))) ?_
  refine lNil ?_
  refine xCode ?_
  refine cSeq ?_
  refine cRegion ?_
  refine lCh (cBuildSlice (te := 9) (k := kS) (css := [[vS ([69, 78, 84, 69, 82] : List UInt8)], [vS ([67, 76, 69, 65, 82] : List UInt8)], [vS ([80, 65, 49] : List UInt8)], [vS ([80, 65, 50] : List UInt8)], [vS ([80, 65, 51] : List UInt8)]]) (xs := ([([69, 78, 84, 69, 82] : List UInt8), ([67, 76, 69, 65, 82] : List UInt8), ([80, 65, 49] : List UInt8), ([80, 65, 50] : List UInt8), ([80, 65, 51] : List UInt8)] : List (List UInt8))) und_82 siz_9 zer_9 rfl (by decide) rfl (.c (.c (v' := vS ([69, 78, 84, 69, 82] : List UInt8)) rfl) (.c (.c (v' := vS ([67, 76, 69, 65, 82] : List UInt8)) rfl) (.c (.c (v' := vS ([80, 65, 49] : List UInt8)) rfl) (.c (.c (v' := vS ([80, 65, 50] : List UInt8)) rfl) (.c (.c (v' := vS ([80, 65, 51] : List UInt8)) rfl) .n))))) rfl (fun zs h => match zs, h with | [_, _, _, _, _], _ => rfl) rfl (fun _ _ _ => (.cons rfl (.cons rfl (.cons rfl (.cons rfl (.cons rfl .nil))))))) rfl rfl fun b2 => ?_
  refine lRd (dAssign (.t .z)) rfl rfl ?_
  refine lKeep (.k (.d (.k (.k (.k .n))))) ?_
  refine lNil ?_
  refine xCode ?_
  refine cSeq ?_
  refine cSeq ?_
  refine cRegion ?_
  refine lRd (dAssign (.c rfl)) rfl rfl ?_
  refine lNil ?_
  refine xCode ?_
  refine cLoopR (S := Int) (X := Unit) (S' := Unit) (X' := Unit) (ref22_Attention_l1 K a0) (fun (s : Int) (x : Unit) => [(5, .int .i64 s), (4, .slice (some ⟨b2, 0, none⟩) 5 5), (3, .slice (some ⟨b1, 0, none⟩) 29 29), (2, vS ([] : List UInt8)), (0, vB a0)]) (fun (s : Int) (x : Unit) => [.own (.slice (some ⟨b2, 0, none⟩) 5 5) 9 kS ([([69, 78, 84, 69, 82] : List UInt8), ([67, 76, 69, 65, 82] : List UInt8), ([80, 65, 49] : List UInt8), ([80, 65, 50] : List UInt8), ([80, 65, 51] : List UInt8)] : List (List UInt8)), .own (.slice (some ⟨b1, 0, none⟩) 29 29) 5 kB ([(125 : UInt8), (109 : UInt8), (108 : UInt8), (110 : UInt8), (107 : UInt8), (241 : UInt8), (242 : UInt8), (243 : UInt8), (244 : UInt8), (245 : UInt8), (246 : UInt8), (247 : UInt8), (248 : UInt8), (249 : UInt8), (122 : UInt8), (123 : UInt8), (124 : UInt8), (193 : UInt8), (194 : UInt8), (195 : UInt8), (196 : UInt8), (197 : UInt8), (198 : UInt8), (199 : UInt8), (200 : UInt8), (201 : UInt8), (74 : UInt8), (75 : UInt8), (76 : UInt8)] : List UInt8)]) (fun (s : Unit) (x : Unit) => [(2, vS ([] : List UInt8))]) (fun (s : Unit) (x : Unit) => []) K 0 () (.c .z (.c (.s .z) (.c (.s (.s .z)) (.c (.s (.s (.s .z))) (.c (.s (.s (.s (.s .z)))) .n))))) (.c .z (.c .z .nil)) (fun _ => rfl) (fun n5 I6 h7 s3 x4 => ?_) (fun s28 x29 => ?_)
  · rw [ref22_Attention_l1]
    refine cSeq ?_
    refine cSeq ?_
    refine cRegion ?_
    refine lRd (dMove (.t .z)) rfl rfl ?_
    refine lRd (dMove (.t (.s (.s (.s .z))))) rfl rfl ?_
    refine lRd (dLen (at_ := #[49]) (slOwn (.s .z)) rfl und_49 (.t .z)) rfl rfl ?_
    refine lRd (dLt (.t (.s (.s .z))) (.t .z)) rfl rfl ?_
    refine lNil ?_
    refine xCode ?_
    refine cCond (.t .z) (fun h8 => ?_) (fun h8 => ?_)
    · refine cSkip ?_
      refine xCode ?_
      refine cSeq ?_
      refine cBlock ?_
      refine cSeq ?_
      refine cSeq ?_
      refine cJoin (S := Bool × Bool × Bool × UInt8) (X := Unit) (fun (s : Bool × Bool × Bool × UInt8) (x : Unit) => [(23, .bool s.1), (20, .bool s.2.1), (19, .bool s.2.2.1), (18, vB a0), (17, vB s.2.2.2), (15, .int .i64 s3), (14, .slice (some ⟨b1, 0, none⟩) 29 29), (11, .bool (decide (s3 < (([(125 : UInt8), (109 : UInt8), (108 : UInt8), (110 : UInt8), (107 : UInt8), (241 : UInt8), (242 : UInt8), (243 : UInt8), (244 : UInt8), (245 : UInt8), (246 : UInt8), (247 : UInt8), (248 : UInt8), (249 : UInt8), (122 : UInt8), (123 : UInt8), (124 : UInt8), (193 : UInt8), (194 : UInt8), (195 : UInt8), (196 : UInt8), (197 : UInt8), (198 : UInt8), (199 : UInt8), (200 : UInt8), (201 : UInt8), (74 : UInt8), (75 : UInt8), (76 : UInt8)] : List UInt8).length : Int)))), (10, .int .i64 (([(125 : UInt8), (109 : UInt8), (108 : UInt8), (110 : UInt8), (107 : UInt8), (241 : UInt8), (242 : UInt8), (243 : UInt8), (244 : UInt8), (245 : UInt8), (246 : UInt8), (247 : UInt8), (248 : UInt8), (249 : UInt8), (122 : UInt8), (123 : UInt8), (124 : UInt8), (193 : UInt8), (194 : UInt8), (195 : UInt8), (196 : UInt8), (197 : UInt8), (198 : UInt8), (199 : UInt8), (200 : UInt8), (201 : UInt8), (74 : UInt8), (75 : UInt8), (76 : UInt8)] : List UInt8).length : Int)), (9, .slice (some ⟨b1, 0, none⟩) 29 29), (8, .int .i64 s3), (5, .int .i64 s3), (4, .slice (some ⟨b2, 0, none⟩) 5 5), (3, .slice (some ⟨b1, 0, none⟩) 29 29), (2, vS ([] : List UInt8)), (0, vB a0)]) (fun (s : Bool × Bool × Bool × UInt8) (x : Unit) => [.own (.slice (some ⟨b2, 0, none⟩) 5 5) 9 kS ([([69, 78, 84, 69, 82] : List UInt8), ([67, 76, 69, 65, 82] : List UInt8), ([80, 65, 49] : List UInt8), ([80, 65, 50] : List UInt8), ([80, 65, 51] : List UInt8)] : List (List UInt8)), .own (.slice (some ⟨b1, 0, none⟩) 29 29) 5 kB ([(125 : UInt8), (109 : UInt8), (108 : UInt8), (110 : UInt8), (107 : UInt8), (241 : UInt8), (242 : UInt8), (243 : UInt8), (244 : UInt8), (245 : UInt8), (246 : UInt8), (247 : UInt8), (248 : UInt8), (249 : UInt8), (122 : UInt8), (123 : UInt8), (124 : UInt8), (193 : UInt8), (194 : UInt8), (195 : UInt8), (196 : UInt8), (197 : UInt8), (198 : UInt8), (199 : UInt8), (200 : UInt8), (201 : UInt8), (74 : UInt8), (75 : UInt8), (76 : UInt8)] : List UInt8)]) ?_ (fun s13 x14 => ?_)
      · refine cRegion ?_
        refine lRd (dMove (.t (.s (.s (.s (.s (.s (.s .z)))))))) rfl rfl ?_
        refine lRd (dMove (.t (.s (.s (.s (.s (.s .z))))))) rfl rfl ?_
        refine lIx fun y9 h10 h11 => ?_
        refine lRd (dIxAddr (slOwn (.s .z)) und_49 siz_5 (.t (.s .z)) (.t .z) h10 h11) rfl rfl ?_
        refine lRd (dLoadE (slOwn (.s .z)) agg_5 (.t .z) h11 (fun _ _ h => by cases h; rfl)) rfl rfl ?_
        refine lRd (dMove (.t (.s (.s (.s (.s (.s (.s (.s (.s (.s (.s (.s (.s .z)))))))))))))) rfl rfl ?_
        refine lRd (dEqB (.t (.s .z)) (.t .z)) rfl rfl ?_
        refine lRd (dMove (.t .z)) rfl rfl ?_
        refine lCase (fun h12 => ?_) (fun h12 => ?_)
        · refine lRdG rfl .z (decide_eq_true h12) (dMove (.t (.s (.s (.s (.s (.s (.s (.s (.s (.s (.s (.s .z))))))))))))) rfl rfl ?_
          refine lRdG rfl (.s .z) (decide_eq_true h12) (dLt (.t .z) (.c rfl)) rfl rfl ?_
          refine lRd (dPickT (.t (.s (.s .z))) (decide_eq_true h12) (.t .z)) rfl rfl ?_
          refine lNil ?_
          exact xJoin ((decide (s3 < 5)), (decide (y9 = a0)), (decide (y9 = a0)), y9) () (.c .z (.c (.s (.s (.s .z))) (.c (.s (.s (.s (.s .z)))) (.c (.s (.s (.s (.s (.s .z))))) (.c (.s (.s (.s (.s (.s (.s .z)))))) (.c (.s (.s (.s (.s (.s (.s (.s (.s .z)))))))) (.c (.s (.s (.s (.s (.s (.s (.s (.s (.s .z))))))))) (.c (.s (.s (.s (.s (.s (.s (.s (.s (.s (.s .z)))))))))) (.c (.s (.s (.s (.s (.s (.s (.s (.s (.s (.s (.s .z))))))))))) (.c (.s (.s (.s (.s (.s (.s (.s (.s (.s (.s (.s (.s .z)))))))))))) (.c (.s (.s (.s (.s (.s (.s (.s (.s (.s (.s (.s (.s (.s .z))))))))))))) (.c (.s (.s (.s (.s (.s (.s (.s (.s (.s (.s (.s (.s (.s (.s .z)))))))))))))) (.c (.s (.s (.s (.s (.s (.s (.s (.s (.s (.s (.s (.s (.s (.s (.s .z))))))))))))))) (.c (.s (.s (.s (.s (.s (.s (.s (.s (.s (.s (.s (.s (.s (.s (.s (.s .z)))))))))))))))) (.c (.s (.s (.s (.s (.s (.s (.s (.s (.s (.s (.s (.s (.s (.s (.s (.s (.s .z))))))))))))))))) (.c (.s (.s (.s (.s (.s (.s (.s (.s (.s (.s (.s (.s (.s (.s (.s (.s (.s (.s .z)))))))))))))))))) .n)))))))))))))))) (.c .z (.c .z .nil))
        · refine lPass rfl .z (nbT (decide_eq_false h12)) rfl ?_
          refine lPass rfl .z (nbT (decide_eq_false h12)) rfl ?_
          refine lRd (dPickF (.t .z) (decide_eq_false h12) (.c rfl)) rfl rfl ?_
          refine lNil ?_
          exact xJoin (false, (decide (y9 = a0)), (decide (y9 = a0)), y9) () (.c .z (.c (.s .z) (.c (.s (.s .z)) (.c (.s (.s (.s .z))) (.c (.s (.s (.s (.s .z)))) (.c (.s (.s (.s (.s (.s (.s .z)))))) (.c (.s (.s (.s (.s (.s (.s (.s .z))))))) (.c (.s (.s (.s (.s (.s (.s (.s (.s .z)))))))) (.c (.s (.s (.s (.s (.s (.s (.s (.s (.s .z))))))))) (.c (.s (.s (.s (.s (.s (.s (.s (.s (.s (.s .z)))))))))) (.c (.s (.s (.s (.s (.s (.s (.s (.s (.s (.s (.s .z))))))))))) (.c (.s (.s (.s (.s (.s (.s (.s (.s (.s (.s (.s (.s .z)))))))))))) (.c (.s (.s (.s (.s (.s (.s (.s (.s (.s (.s (.s (.s (.s .z))))))))))))) (.c (.s (.s (.s (.s (.s (.s (.s (.s (.s (.s (.s (.s (.s (.s .z)))))))))))))) (.c (.s (.s (.s (.s (.s (.s (.s (.s (.s (.s (.s (.s (.s (.s (.s .z))))))))))))))) (.c (.s (.s (.s (.s (.s (.s (.s (.s (.s (.s (.s (.s (.s (.s (.s (.s .z)))))))))))))))) .n)))))))))))))))) (.c .z (.c .z .nil))
      · refine xCode ?_
        refine cCondB (.t .z) (fun h15 => ?_) (fun h15 => ?_)
        · refine cSeq ?_
          refine cRegion ?_
          refine lRd (dMove (.t (.s (.s (.s (.s (.s (.s (.s (.s (.s (.s (.s (.s .z)))))))))))))) rfl rfl ?_
          refine lRd (dMove (.t (.s (.s (.s (.s (.s (.s (.s (.s (.s (.s (.s (.s .z)))))))))))))) rfl rfl ?_
          refine lIx fun y16 h17 h18 => ?_
          refine lRd (dIxAddr (slOwn .z) und_82 siz_9 (.t (.s .z)) (.t .z) h17 h18) rfl rfl ?_
          refine lRd (dLoadE (slOwn .z) agg_9 (.t .z) h18 (fun _ _ h => by cases h; rfl)) rfl rfl ?_
          refine lRdK (dAssign (.t .z)) (.k (.k (.k (.k (.k (.k (.k (.k (.k (.k (.k (.k (.k (.k (.k (.k (.k (.k (.d (Keep.refl _)))))))))))))))))))) rfl rfl ?_
          refine lNil ?_
          refine xCode ?_
          refine cRet ?_
          refine rInner ?_
          exact rDone (rs := [.tmp 2]) rfl (.t .z .n) hD (.inl rfl) () rfl .nil
        · refine cSkip ?_
          refine xCode ?_
          refine cSeq ?_
          refine cRegion ?_
          refine lRd (dMove (.t (.s (.s (.s (.s (.s (.s (.s (.s (.s (.s (.s (.s (.s .z))))))))))))))) rfl rfl ?_
          refine lRd (dMove (.t (.s (.s (.s (.s (.s (.s (.s (.s (.s (.s (.s (.s .z)))))))))))))) rfl rfl ?_
          refine lIx fun y19 h20 h21 => ?_
          refine lRd (dIxAddr (slOwn (.s .z)) und_49 siz_5 (.t (.s .z)) (.t .z) h20 h21) rfl rfl ?_
          refine lRd (dLoadE (slOwn (.s .z)) agg_5 (.t .z) h21 (fun _ _ h => by cases h; rfl)) rfl rfl ?_
          refine lRd (dMove (.t (.s (.s (.s (.s (.s (.s (.s (.s (.s (.s (.s (.s (.s (.s (.s (.s (.s (.s (.s .z))))))))))))))))))))) rfl rfl ?_
          refine lRd (dEqB (.t (.s .z)) (.t .z)) rfl rfl ?_
          refine lNil ?_
          refine xCode ?_
          refine cCond (.t .z) (fun h22 => ?_) (fun h22 => ?_)
          · refine cSeq ?_
            refine cRegion ?_
            refine lRd (dMove (.t (.s (.s (.s (.s (.s (.s (.s (.s (.s (.s (.s (.s (.s (.s (.s (.s (.s .z))))))))))))))))))) rfl rfl ?_
            refine lRd (dSubI (.t .z) (.c rfl)) rfl rfl ?_
            refine lCall fok_38 (.c (.t .z) .n) (strconv_Itoa_c (w64 (s3 - 4))) .n rfl rfl fun o23 x24 h25 => ?_
            refine lBind fun r26 h27 => ?_
            refine lRd (dCat (.c (v' := vS ([80, 70] : List UInt8)) rfl) (.t .z) h27) rfl rfl ?_
            refine lRdK (dAssign (.t .z)) (.k (.k (.k (.k (.k (.k (.k (.k (.k (.k (.k (.k (.k (.k (.k (.k (.k (.k (.k (.k (.k (.k (.k (.k (.d (Keep.refl _)))))))))))))))))))))))))) rfl rfl ?_
            refine lNil ?_
            refine xCode ?_
            refine cRet ?_
            refine rInner ?_
            exact rDone (rs := [.tmp 2]) rfl (.t .z .n) hD (.inl rfl) () rfl .nil
          · refine cSkip ?_
            refine xBlock ?_
            refine xCode ?_
            refine cRegion ?_
            refine lRd (dMove (.t (.s (.s (.s (.s (.s (.s (.s (.s (.s (.s (.s (.s (.s (.s (.s (.s (.s .z))))))))))))))))))) rfl rfl ?_
            refine lRd (dAddI (.t .z) (.c rfl)) rfl rfl ?_
            refine lRdK (dAssign (.t .z)) (.k (.k (.k (.k (.k (.k (.k (.k (.k (.k (.k (.k (.k (.k (.k (.k (.k (.k (.k (.d (Keep.refl _))))))))))))))))))))) rfl rfl ?_
            refine lNil ?_
            exact xRound h7 (w64 (s3 + 1)) () (.c .z (.c (.s (.s (.s (.s (.s (.s (.s (.s (.s (.s (.s (.s (.s (.s (.s (.s (.s (.s (.s (.s .z)))))))))))))))))))) (.c (.s (.s (.s (.s (.s (.s (.s (.s (.s (.s (.s (.s (.s (.s (.s (.s (.s (.s (.s (.s (.s .z))))))))))))))))))))) (.c (.s (.s (.s (.s (.s (.s (.s (.s (.s (.s (.s (.s (.s (.s (.s (.s (.s (.s (.s (.s (.s (.s .z)))))))))))))))))))))) (.c (.s (.s (.s (.s (.s (.s (.s (.s (.s (.s (.s (.s (.s (.s (.s (.s (.s (.s (.s (.s (.s (.s (.s .z))))))))))))))))))))))) .n))))) (.c .z (.c .z .nil))
    · refine cExit ?_
      refine xOver ?_
      refine xOverF ?_
      exact xBreakR () () (.c (.s (.s (.s (.s (.s (.s (.s .z))))))) .n) .nil
  · refine xCode ?_
    refine cSeq ?_
    refine cRegion ?_
    refine lRdK (dAssign (.c (v' := vS ([] : List UInt8)) rfl)) (.d (Keep.refl _)) rfl rfl ?_
    refine lNil ?_
    refine xCode ?_
    refine cRet ?_
    exact rDone (rs := [.tmp 2]) rfl (.t .z .n) hD (.inl rfl) () rfl .nil

-- greenscreen/greenscreenref22.Name
def ref22_Name_m (K : Nat) (a0 : Int) (a1 : UInt8) : Option ((List UInt8)) := (if a0 = 17 then (ref22_Attention_m K a1).bind fun o3 => some o3 else ((if a0 < 0 then some true else some (decide (a0 > 16)))).bind fun (s7 : Bool) => (if s7 = true then some ([] : List UInt8) else (ix ([([] : List UInt8), ([] : List UInt8), ([84, 65, 66] : List UInt8), ([66, 65, 67, 75, 84, 65, 66] : List UInt8), ([78, 69, 87, 76, 73, 78, 69] : List UInt8), ([72, 79, 77, 69] : List UInt8), ([85, 80] : List UInt8), ([68, 79, 87, 78] : List UInt8), ([76, 69, 70, 84] : List UInt8), ([82, 73, 71, 72, 84] : List UInt8), ([69, 82, 65, 83, 69, 69, 78, 68] : List UInt8), ([69, 82, 65, 83, 69, 73, 78, 80, 85, 84] : List UInt8), ([68, 69, 76, 69, 84, 69] : List UInt8), ([73, 78, 83, 69, 82, 84] : List UInt8), ([68, 85, 80] : List UInt8), ([77, 65, 82, 75] : List UInt8), ([82, 69, 83, 69, 84] : List UInt8)] : List (List UInt8)) a0).bind fun y10 => some y10))
theorem ref22_Name_c (K : Nat) (a0 : Int) (a1 : UInt8) : Con Tryz.prog 8 #[.int .i64 a0, vB a1] [] (ref22_Name_m K a0 a1) (fun (o : (List UInt8)) (x : Unit) => vS o) (fun (o : (List UInt8)) (x : Unit) => []) := by
  unfold ref22_Name_m
  refine con (args := [.int .i64 a0, vB a1]) Tryz.func8 rfl 21 rfl (.c (.c .n)) rfl fun c hD => ?_
  refine cSeq ?_
  refine cRegion ?_
  refine lRd (dAssign (.c (v' := vS ([] : List UInt8)) rfl)) rfl rfl ?_
  refine lNil ?_
  refine xCode ?_
  refine cSeq ?_
  refine cRegion ?_
  refine lCh (cBuildSliceN (te := 9) (k := kS) (us := [vS ([] : List UInt8), vS ([] : List UInt8), vS ([84, 65, 66] : List UInt8), vS ([66, 65, 67, 75, 84, 65, 66] : List UInt8), vS ([78, 69, 87, 76, 73, 78, 69] : List UInt8), vS ([72, 79, 77, 69] : List UInt8), vS ([85, 80] : List UInt8), vS ([68, 79, 87, 78] : List UInt8), vS ([76, 69, 70, 84] : List UInt8), vS ([82, 73, 71, 72, 84] : List UInt8), vS ([69, 82, 65, 83, 69, 69, 78, 68] : List UInt8), vS ([69, 82, 65, 83, 69, 73, 78, 80, 85, 84] : List UInt8), vS ([68, 69, 76, 69, 84, 69] : List UInt8), vS ([73, 78, 83, 69, 82, 84] : List UInt8), vS ([68, 85, 80] : List UInt8), vS ([77, 65, 82, 75] : List UInt8), vS ([82, 69, 83, 69, 84] : List UInt8)]) (css := [[vS ([] : List UInt8)], [vS ([] : List UInt8)], [vS ([84, 65, 66] : List UInt8)], [vS ([66, 65, 67, 75, 84, 65, 66] : List UInt8)], [vS ([78, 69, 87, 76, 73, 78, 69] : List UInt8)], [vS ([72, 79, 77, 69] : List UInt8)], [vS ([85, 80] : List UInt8)], [vS ([68, 79, 87, 78] : List UInt8)], [vS ([76, 69, 70, 84] : List UInt8)], [vS ([82, 73, 71, 72, 84] : List UInt8)], [vS ([69, 82, 65, 83, 69, 69, 78, 68] : List UInt8)], [vS ([69, 82, 65, 83, 69, 73, 78, 80, 85, 84] : List UInt8)], [vS ([68, 69, 76, 69, 84, 69] : List UInt8)], [vS ([73, 78, 83, 69, 82, 84] : List UInt8)], [vS ([68, 85, 80] : List UInt8)], [vS ([77, 65, 82, 75] : List UInt8)], [vS ([82, 69, 83, 69, 84] : List UInt8)]]) (xs := ([([] : List UInt8), ([] : List UInt8), ([84, 65, 66] : List UInt8), ([66, 65, 67, 75, 84, 65, 66] : List UInt8), ([78, 69, 87, 76, 73, 78, 69] : List UInt8), ([72, 79, 77, 69] : List UInt8), ([85, 80] : List UInt8), ([68, 79, 87, 78] : List UInt8), ([76, 69, 70, 84] : List UInt8), ([82, 73, 71, 72, 84] : List UInt8), ([69, 82, 65, 83, 69, 69, 78, 68] : List UInt8), ([69, 82, 65, 83, 69, 73, 78, 80, 85, 84] : List UInt8), ([68, 69, 76, 69, 84, 69] : List UInt8), ([73, 78, 83, 69, 82, 84] : List UInt8), ([68, 85, 80] : List UInt8), ([77, 65, 82, 75] : List UInt8), ([82, 69, 83, 69, 84] : List UInt8)] : List (List UInt8))) und_82 siz_9 zer_9 rfl (by decide) rfl (.c (.c (v' := vS ([] : List UInt8)) rfl) (.c (.c (v' := vS ([] : List UInt8)) rfl) (.c (.c (v' := vS ([84, 65, 66] : List UInt8)) rfl) (.c (.c (v' := vS ([66, 65, 67, 75, 84, 65, 66] : List UInt8)) rfl) (.c (.c (v' := vS ([78, 69, 87, 76, 73, 78, 69] : List UInt8)) rfl) (.c (.c (v' := vS ([72, 79, 77, 69] : List UInt8)) rfl) (.c (.c (v' := vS ([85, 80] : List UInt8)) rfl) (.c (.c (v' := vS ([68, 79, 87, 78] : List UInt8)) rfl) (.c (.c (v' := vS ([76, 69, 70, 84] : List UInt8)) rfl) (.c (.c (v' := vS ([82, 73, 71, 72, 84] : List UInt8)) rfl) (.c (.c (v' := vS ([69, 82, 65, 83, 69, 69, 78, 68] : List UInt8)) rfl) (.c (.c (v' := vS ([69, 82, 65, 83, 69, 73, 78, 80, 85, 84] : List UInt8)) rfl) (.c (.c (v' := vS ([68, 69, 76, 69, 84, 69] : List UInt8)) rfl) (.c (.c (v' := vS ([73, 78, 83, 69, 82, 84] : List UInt8)) rfl) (.c (.c (v' := vS ([68, 85, 80] : List UInt8)) rfl) (.c (.c (v' := vS ([77, 65, 82, 75] : List UInt8)) rfl) (.c (.c (v' := vS ([82, 69, 83, 69, 84] : List UInt8)) rfl) .n))))))))))))))))) rfl rfl rfl rfl (fun _ _ _ => (.cons rfl (.cons rfl (.cons rfl (.cons rfl (.cons rfl (.cons rfl (.cons rfl (.cons rfl (.cons rfl (.cons rfl (.cons rfl (.cons rfl (.cons rfl (.cons rfl (.cons rfl (.cons rfl (.cons rfl .nil))))))))))))))))))) rfl rfl fun b1 => ?_
  refine lRd (dAssign (.t .z)) rfl rfl ?_
  refine lKeep (.k (.d (.k (.k (.k .n))))) ?_
  refine lNil ?_
  refine xCode ?_
  refine cSeq ?_
  refine cSeq ?_
  refine cRegion ?_
  refine lRd (dMove (.t (.s (.s .z)))) rfl rfl ?_
  refine lRd (dEq (.t .z) (.c rfl)) rfl rfl ?_
  refine lKeep (.k (.d (.k (.k (.k (.k .n)))))) ?_
  refine lNil ?_
  refine xCode ?_
  refine cCond (.t .z) (fun h2 => ?_) (fun h2 => ?_)
  · refine cSeq ?_
    refine cRegion ?_
    refine lRd (dMove (.t (.s (.s (.s (.s .z)))))) rfl rfl ?_
    refine lCall fok_11 (.c (.t .z) .n) (ref22_Attention_c K a1) .n rfl rfl fun o3 x4 h5 => ?_
    refine lRdK (dAssign (.t .z)) (.k (.k (.k (.k (.d (Keep.refl _)))))) rfl rfl ?_
    refine lKeep (.k (.d (.d (.d (.k (.k .n)))))) ?_
    refine lNil ?_
    refine xCode ?_
    refine cRet ?_
    exact rDone (rs := [.tmp 4]) rfl (.t .z .n) hD (.inl rfl) () rfl .nil
  · refine cSkip ?_
    refine xCode ?_
    refine cSeq ?_
    refine cSeq ?_
    refine cJoin (S := Bool) (X := Unit) (fun (s : Bool) (x : Unit) => [(16, .bool s), (5, .slice (some ⟨b1, 0, none⟩) 17 17), (4, vS ([] : List UInt8)), (0, .int .i64 a0)]) (fun (s : Bool) (x : Unit) => [.own (.slice (some ⟨b1, 0, none⟩) 17 17) 9 kS ([([] : List UInt8), ([] : List UInt8), ([84, 65, 66] : List UInt8), ([66, 65, 67, 75, 84, 65, 66] : List UInt8), ([78, 69, 87, 76, 73, 78, 69] : List UInt8), ([72, 79, 77, 69] : List UInt8), ([85, 80] : List UInt8), ([68, 79, 87, 78] : List UInt8), ([76, 69, 70, 84] : List UInt8), ([82, 73, 71, 72, 84] : List UInt8), ([69, 82, 65, 83, 69, 69, 78, 68] : List UInt8), ([69, 82, 65, 83, 69, 73, 78, 80, 85, 84] : List UInt8), ([68, 69, 76, 69, 84, 69] : List UInt8), ([73, 78, 83, 69, 82, 84] : List UInt8), ([68, 85, 80] : List UInt8), ([77, 65, 82, 75] : List UInt8), ([82, 69, 83, 69, 84] : List UInt8)] : List (List UInt8))]) ?_ (fun s7 x8 => ?_)
    · refine cRegion ?_
      refine lRd (dMove (.t (.s (.s (.s .z))))) rfl rfl ?_
      refine lRd (dLt (.t .z) (.c rfl)) rfl rfl ?_
      refine lRd (dMove (.t .z)) rfl rfl ?_
      refine lCase (fun h6 => ?_) (fun h6 => ?_)
      · refine lPass rfl .z (nbF (decide_eq_true h6)) rfl ?_
        refine lPass rfl .z (nbF (decide_eq_true h6)) rfl ?_
        refine lRd (dPickT (.t .z) (decide_eq_true h6) (.c rfl)) rfl rfl ?_
        refine lKeep (.k (.d (.d (.d (.d (.k (.k (.k .n)))))))) ?_
        refine lNil ?_
        exact xJoin true () (.c .z (.c (.s .z) (.c (.s (.s .z)) (.c (.s (.s (.s .z))) .n)))) (.c .z .nil)
      · refine lRdG rfl .z (decide_eq_false h6) (dMove (.t (.s (.s (.s (.s (.s (.s .z)))))))) rfl rfl ?_
        refine lRdG rfl (.s .z) (decide_eq_false h6) (dGt (.t .z) (.c rfl)) rfl rfl ?_
        refine lRd (dPickF (.t (.s (.s .z))) (decide_eq_false h6) (.t .z)) rfl rfl ?_
        refine lKeep (.k (.d (.d (.d (.d (.d (.d (.k (.k (.k .n)))))))))) ?_
        refine lNil ?_
        exact xJoin (decide (a0 > 16)) () (.c .z (.c (.s .z) (.c (.s (.s .z)) (.c (.s (.s (.s .z))) .n)))) (.c .z .nil)
    · refine xCode ?_
      refine cCondB (.t .z) (fun h9 => ?_) (fun h9 => ?_)
      · refine cSeq ?_
        refine cRegion ?_
        refine lRdK (dAssign (.c (v' := vS ([] : List UInt8)) rfl)) (.k (.k (.d (Keep.refl _)))) rfl rfl ?_
        refine lKeep (.k (.d (.k (.k .n)))) ?_
        refine lNil ?_
        refine xCode ?_
        refine cRet ?_
        exact rDone (rs := [.tmp 4]) rfl (.t .z .n) hD (.inl rfl) () rfl .nil
      · refine cSkip ?_
        refine xCode ?_
        refine cSeq ?_
        refine cRegion ?_
        refine lRd (dMove (.t (.s .z))) rfl rfl ?_
        refine lRd (dMove (.t (.s (.s (.s (.s .z)))))) rfl rfl ?_
        refine lIx fun y10 h11 h12 => ?_
        refine lRd (dIxAddr (slOwn .z) und_82 siz_9 (.t (.s .z)) (.t .z) h11 h12) rfl rfl ?_
        refine lRd (dLoadE (slOwn .z) agg_9 (.t .z) h12 (fun _ _ h => by cases h; rfl)) rfl rfl ?_
        refine lRdK (dAssign (.t .z)) (.k (.k (.k (.k (.k (.k (.d (Keep.refl _)))))))) rfl rfl ?_
        refine lKeep (.k .n) ?_
        refine lNil ?_
        refine xCode ?_
        refine cRet ?_
        exact rDone (rs := [.tmp 4]) rfl (.t .z .n) hD (.inl rfl) () rfl .nil

-- greenscreen/greenscreenlaw22.KeyboardNames
def law22_KeyboardNames_m (K : Nat) (a0 : keyboard_Key) (a1 : (List UInt8)) : Option (Bool) := (law22_alive_m K).bind fun o2 => (if (!o2) = true then some false else (ref22_Name_m K a0.f_Kind a0.f_Byte).bind fun o6 => ((keyboard_Name_m a0).bind fun o9 => (if o9 ≠ o6 then some true else (keyboard_Attention_m a0.f_Byte).bind fun o13 => (ref22_Attention_m K a0.f_Byte).bind fun o16 => some (decide (o13 ≠ (decide (o16 ≠ ([] : List UInt8))))))).bind fun (s19 : Bool) => (if s19 = true then some false else ((if a0.f_Byte = (109 : UInt8) then some true else (if a0.f_Byte = (108 : UInt8) then some true else (if a0.f_Byte = (110 : UInt8) then some true else some (decide (a0.f_Byte = (107 : UInt8))))))).bind fun (s25 : Bool) => (keyboard_Named_m K o6).bind fun o27 => ((keyboard_Short_m a0.f_Byte).bind fun o31 => (if o31 ≠ s25 then some true else (if o27.2 ≠ (decide (o6 ≠ ([] : List UInt8))) then some true else (if o27.2 = true then (keyboard_Name_m o27.1).bind fun o37 => some (decide (o37 ≠ o6)) else some false)))).bind fun (s40 : Bool) => (if s40 = true then some false else (keyboard_Named_m K a1).bind fun o43 => (if (!o43.2) = true then (if o43.1 = (⟨0, 0⟩ : keyboard_Key) then some true else (if o43.2 = true then (keyboard_Name_m o43.1).bind fun o50 => (if o50 = a1 then some (decide (a1 ≠ ([] : List UInt8))) else some false) else some false)) else (if o43.2 = true then (keyboard_Name_m o43.1).bind fun o55 => (if o55 = a1 then some (decide (a1 ≠ ([] : List UInt8))) else some false) else some false)))))
theorem law22_KeyboardNames_c (K : Nat) (a0 : keyboard_Key) (a1 : (List UInt8)) : Con Tryz.prog 3 #[.agg #[.int .i64 a0.f_Kind, vB a0.f_Byte], vS a1] [.ro (kVar 0 83) [] (glob_0.map vS)] (law22_KeyboardNames_m K a0 a1) (fun (o : Bool) (x : Unit) => .bool o) (fun (o : Bool) (x : Unit) => []) := by
  unfold law22_KeyboardNames_m
  refine con (args := [.agg #[.int .i64 a0.f_Kind, vB a0.f_Byte], vS a1]) Tryz.func3 rfl 100 rfl (.c (.c .n)) rfl fun c hD => ?_
  refine cSeq ?_
  refine cRegion ?_
  refine lCh (cBox (cs := [.int .i64 a0.f_Kind, vB a0.f_Byte]) (.t .z) rfl) rfl rfl fun b1 => ?_
  refine lRd (dAssign (.c rfl)) rfl rfl ?_
  refine lKeep (.k (.k (.d (.k .n)))) ?_
  refine lNil ?_
  refine xCode ?_
  refine cSeq ?_
  refine cSeq ?_
  refine cRegion ?_
  refine lCall fok_7 .n (law22_alive_c K) (.r (.s .z) .n) rfl rfl fun o2 x3 h4 => ?_
  refine lRd (dNot (.t .z)) rfl rfl ?_
  refine lKeep (.k (.d (.k (.k (.k .n))))) ?_
  refine lNil ?_
  refine xCode ?_
  refine cCondB (.t .z) (fun h5 => ?_) (fun h5 => ?_)
  · refine cSeq ?_
    refine cRegion ?_
    refine lRdK (dAssign (.c rfl)) (.k (.d (Keep.refl _))) rfl rfl ?_
    refine lKeep (.k (.d (.k (.k .n)))) ?_
    refine lNil ?_
    refine xCode ?_
    refine cRet ?_
    exact rDone (rs := [.tmp 4]) rfl (.t .z .n) hD (.inl rfl) () rfl .nil
  · refine cSkip ?_
    refine xCode ?_
    refine cSeq ?_
    refine cRegion ?_
    refine lRd (dFld fld_23_0 (by decide) (.t (.s (.s .z))) rfl) rfl rfl ?_
    refine lRd (dLoad .z agg_3 (.t .z) rfl) rfl rfl ?_
    refine lRd (dFld fld_23_1 (by decide) (.t (.s (.s (.s (.s .z))))) rfl) rfl rfl ?_
    refine lRd (dLoad .z agg_5 (.t .z) rfl) rfl rfl ?_
    refine lCall fok_8 (.c (.t (.s (.s .z))) (.c (.t .z) .n)) (ref22_Name_c K a0.f_Kind a0.f_Byte) .n rfl rfl fun o6 x7 h8 => ?_
    refine lRd (dAssign (.t .z)) rfl rfl ?_
    refine lKeep (.k (.d (.d (.d (.d (.d (.d (.k (.k (.k .n)))))))))) ?_
    refine lNil ?_
    refine xCode ?_
    refine cSeq ?_
    refine cSeq ?_
    refine cJoin (S := Bool) (X := Unit) (fun (s : Bool) (x : Unit) => [(31, .bool s), (5, vS o6), (4, .bool false), (2, .pointer (some ⟨b1, 0, none⟩)), (1, vS a1)]) (fun (s : Bool) (x : Unit) => [.blk b1 [.int .i64 a0.f_Kind, vB a0.f_Byte] 23, .ro (kVar 0 83) [] (glob_0.map vS)]) ?_ (fun s19 x20 => ?_)
    · refine cRegionM [] [(0, .early), (1, .early), (2, .early), (3, .early), (4, .early), (5, .early), (6, .early), (7, .early), (8, .early), (9, .early), (10, .early), (11, .early), (12, .early), (13, .early)] mixed (by kernel_rfl) (.c .z (.c .z .nil)) (.c (.c .n)) ?_
      refine mRd rfl rfl (fun _ _ _ => dLoadA (us := [.int .i64 a0.f_Kind, vB a0.f_Byte]) .z agg_23 siz_23 rfl (.t (.s (.s .z))) rfl) rfl rfl ?_
      refine mCallQ rfl rfl fok_9 (.c (.t .z) .n) (keyboard_Name_c a0) (.r (.s .z) .n) (fun _ _ => rfl) (fun _ _ => (.c .z (.c .z .nil))) rfl rfl fun o9 h11 => ?_
      refine mRd rfl rfl (fun _ _ _ => dMove (.t (.s (.s .z)))) rfl rfl ?_
      refine mRd rfl rfl (fun _ _ _ => dNeS (.t (.s .z)) (.t .z)) rfl rfl ?_
      refine mRd rfl rfl (fun _ _ _ => dMove (.t .z)) rfl rfl ?_
      refine mCase (fun h12 => ?_) (fun h12 => ?_)
      · refine mPass rfl rfl rfl .z (nbF (decide_eq_true h12)) rfl ?_
        refine mPass rfl rfl rfl .z (nbF (decide_eq_true h12)) rfl ?_
        refine mPass rfl rfl rfl .z (nbF (decide_eq_true h12)) rfl ?_
        refine mPass rfl rfl rfl .z (nbF (decide_eq_true h12)) rfl ?_
        refine mPass rfl rfl rfl .z (nbF (decide_eq_true h12)) rfl ?_
        refine mPass rfl rfl rfl .z (nbF (decide_eq_true h12)) rfl ?_
        refine mPass rfl rfl rfl .z (nbF (decide_eq_true h12)) rfl ?_
        refine mPass rfl rfl rfl .z (nbF (decide_eq_true h12)) rfl ?_
        refine mRd rfl rfl (fun _ _ _ => dPickT (.t .z) (decide_eq_true h12) (.c rfl)) rfl rfl ?_
        refine mKeep (.k (.d (.d (.d (.d (.d (.k (.k (.k (.k .n)))))))))) ?_
        refine mNil ?_
        exact xJoin true () (.c .z (.c (.s .z) (.c (.s (.s .z)) (.c (.s (.s (.s .z))) (.c (.s (.s (.s (.s .z)))) .n))))) (.c .z (.c .z .nil))
      · refine mRdG rfl rfl rfl .z (decide_eq_false h12) (fun _ _ _ => dFld fld_23_1 (by decide) (.t (.s (.s (.s (.s (.s (.s (.s .z)))))))) rfl) rfl rfl ?_
        refine mRdG rfl rfl rfl (.s .z) (decide_eq_false h12) (fun _ _ _ => dLoad .z agg_5 (.t .z) rfl) rfl rfl ?_
        refine mCallQG rfl rfl rfl (.s (.s .z)) (decide_eq_false h12) fok_10 (.c (.t .z) .n) (keyboard_Attention_c a0.f_Byte) .n (fun _ _ => rfl) (fun _ _ => (.c .z (.c .z .nil))) rfl rfl fun o13 h15 => ?_
        refine mRdG rfl rfl rfl (.s (.s (.s .z))) (decide_eq_false h12) (fun _ _ _ => dFld fld_23_1 (by decide) (.t (.s (.s (.s (.s (.s (.s (.s (.s (.s (.s .z))))))))))) rfl) rfl rfl ?_
        refine mRdG rfl rfl rfl (.s (.s (.s (.s .z)))) (decide_eq_false h12) (fun _ _ _ => dLoad .z agg_5 (.t .z) rfl) rfl rfl ?_
        refine mCallQG rfl rfl rfl (.s (.s (.s (.s (.s .z))))) (decide_eq_false h12) fok_11 (.c (.t .z) .n) (ref22_Attention_c K a0.f_Byte) .n (fun _ _ => rfl) (fun _ _ => (.c .z (.c .z .nil))) rfl rfl fun o16 h18 => ?_
        refine mRdG rfl rfl rfl (.s (.s (.s (.s (.s (.s .z)))))) (decide_eq_false h12) (fun _ _ _ => dNeS (.t .z) (.c (v' := vS ([] : List UInt8)) rfl)) rfl rfl ?_
        refine mRdG rfl rfl rfl (.s (.s (.s (.s (.s (.s (.s .z))))))) (decide_eq_false h12) (fun _ _ _ => dNeO und_4 (.t (.s (.s (.s (.s .z))))) (.t .z)) rfl rfl ?_
        refine mRd rfl rfl (fun _ _ _ => dPickF (.t (.s (.s (.s (.s (.s (.s (.s (.s .z))))))))) (decide_eq_false h12) (.t .z)) rfl rfl ?_
        refine mKeep (.k (.d (.d (.d (.d (.d (.d (.d (.d (.d (.d (.d (.d (.d (.k (.k (.k (.k .n)))))))))))))))))) ?_
        refine mNil ?_
        exact xJoin (decide (o13 ≠ (decide (o16 ≠ ([] : List UInt8))))) () (.c .z (.c (.s .z) (.c (.s (.s .z)) (.c (.s (.s (.s .z))) (.c (.s (.s (.s (.s .z)))) .n))))) (.c .z (.c .z .nil))
    · refine xCode ?_
      refine cCondB (.t .z) (fun h21 => ?_) (fun h21 => ?_)
      · refine cSeq ?_
        refine cRegion ?_
        refine lRdK (dAssign (.c rfl)) (.k (.k (.d (Keep.refl _)))) rfl rfl ?_
        refine lKeep (.k (.d (.k (.k (.k .n))))) ?_
        refine lNil ?_
        refine xCode ?_
        refine cRet ?_
        exact rDone (rs := [.tmp 4]) rfl (.t .z .n) hD (.inl rfl) () rfl .nil
      · refine cSkip ?_
        refine xCode ?_
        refine cSeq ?_
        refine cJoin (S := Bool) (X := Unit) (fun (s : Bool) (x : Unit) => [(6, .bool s), (5, vS o6), (4, .bool false), (2, .pointer (some ⟨b1, 0, none⟩)), (1, vS a1)]) (fun (s : Bool) (x : Unit) => [.blk b1 [.int .i64 a0.f_Kind, vB a0.f_Byte] 23, .ro (kVar 0 83) [] (glob_0.map vS)]) ?_ (fun s25 x26 => ?_)
        · refine cRegion ?_
          refine lRd (dFld fld_23_1 (by decide) (.t (.s (.s (.s .z)))) rfl) rfl rfl ?_
          refine lRd (dLoad .z agg_5 (.t .z) rfl) rfl rfl ?_
          refine lRd (dEqB (.t .z) (.c (v' := vB 109) rfl)) rfl rfl ?_
          refine lRd (dMove (.t .z)) rfl rfl ?_
          refine lCase (fun h22 => ?_) (fun h22 => ?_)
          · refine lPass rfl .z (nbF (decide_eq_true h22)) rfl ?_
            refine lPass rfl .z (nbF (decide_eq_true h22)) rfl ?_
            refine lPass rfl .z (nbF (decide_eq_true h22)) rfl ?_
            refine lRd (dPickT (.t .z) (decide_eq_true h22) (.c rfl)) rfl rfl ?_
            refine lRd (dMove (.t .z)) rfl rfl ?_
            refine lPass rfl .z (nbF rfl) rfl ?_
            refine lPass rfl .z (nbF rfl) rfl ?_
            refine lPass rfl .z (nbF rfl) rfl ?_
            refine lRd (dPickT (.t .z) rfl (.c rfl)) rfl rfl ?_
            refine lRd (dMove (.t .z)) rfl rfl ?_
            refine lPass rfl .z (nbF rfl) rfl ?_
            refine lPass rfl .z (nbF rfl) rfl ?_
            refine lPass rfl .z (nbF rfl) rfl ?_
            refine lRd (dPickT (.t .z) rfl (.c rfl)) rfl rfl ?_
            refine lRd (dAssign (.t .z)) rfl rfl ?_
            refine lKeep (.k (.d (.d (.d (.d (.d (.d (.d (.d (.d (.d (.k (.k (.k (.k .n))))))))))))))) ?_
            refine lNil ?_
            exact xJoin true () (.c .z (.c (.s .z) (.c (.s (.s .z)) (.c (.s (.s (.s .z))) (.c (.s (.s (.s (.s .z)))) .n))))) (.c .z (.c .z .nil))
          · refine lRdG rfl .z (decide_eq_false h22) (dFld fld_23_1 (by decide) (.t (.s (.s (.s (.s (.s (.s (.s .z)))))))) rfl) rfl rfl ?_
            refine lRdG rfl (.s .z) (decide_eq_false h22) (dLoad .z agg_5 (.t .z) rfl) rfl rfl ?_
            refine lRdG rfl (.s (.s .z)) (decide_eq_false h22) (dEqB (.t .z) (.c (v' := vB 108) rfl)) rfl rfl ?_
            refine lRd (dPickF (.t (.s (.s (.s .z)))) (decide_eq_false h22) (.t .z)) rfl rfl ?_
            refine lRd (dMove (.t .z)) rfl rfl ?_
            refine lCase (fun h23 => ?_) (fun h23 => ?_)
            · refine lPass rfl .z (nbF (decide_eq_true h23)) rfl ?_
              refine lPass rfl .z (nbF (decide_eq_true h23)) rfl ?_
              refine lPass rfl .z (nbF (decide_eq_true h23)) rfl ?_
              refine lRd (dPickT (.t .z) (decide_eq_true h23) (.c rfl)) rfl rfl ?_
              refine lRd (dMove (.t .z)) rfl rfl ?_
              refine lPass rfl .z (nbF rfl) rfl ?_
              refine lPass rfl .z (nbF rfl) rfl ?_
              refine lPass rfl .z (nbF rfl) rfl ?_
              refine lRd (dPickT (.t .z) rfl (.c rfl)) rfl rfl ?_
              refine lRd (dAssign (.t .z)) rfl rfl ?_
              refine lKeep (.k (.d (.d (.d (.d (.d (.d (.d (.d (.d (.d (.d (.d (.d (.k (.k (.k (.k .n)))))))))))))))))) ?_
              refine lNil ?_
              exact xJoin true () (.c .z (.c (.s .z) (.c (.s (.s .z)) (.c (.s (.s (.s .z))) (.c (.s (.s (.s (.s .z)))) .n))))) (.c .z (.c .z .nil))
            · refine lRdG rfl .z (decide_eq_false h23) (dFld fld_23_1 (by decide) (.t (.s (.s (.s (.s (.s (.s (.s (.s (.s (.s (.s (.s .z))))))))))))) rfl) rfl rfl ?_
              refine lRdG rfl (.s .z) (decide_eq_false h23) (dLoad .z agg_5 (.t .z) rfl) rfl rfl ?_
              refine lRdG rfl (.s (.s .z)) (decide_eq_false h23) (dEqB (.t .z) (.c (v' := vB 110) rfl)) rfl rfl ?_
              refine lRd (dPickF (.t (.s (.s (.s .z)))) (decide_eq_false h23) (.t .z)) rfl rfl ?_
              refine lRd (dMove (.t .z)) rfl rfl ?_
              refine lCase (fun h24 => ?_) (fun h24 => ?_)
              · refine lPass rfl .z (nbF (decide_eq_true h24)) rfl ?_
                refine lPass rfl .z (nbF (decide_eq_true h24)) rfl ?_
                refine lPass rfl .z (nbF (decide_eq_true h24)) rfl ?_
                refine lRd (dPickT (.t .z) (decide_eq_true h24) (.c rfl)) rfl rfl ?_
                refine lRd (dAssign (.t .z)) rfl rfl ?_
                refine lKeep (.k (.d (.d (.d (.d (.d (.d (.d (.d (.d (.d (.d (.d (.d (.d (.d (.d (.k (.k (.k (.k .n))))))))))))))))))))) ?_
                refine lNil ?_
                exact xJoin true () (.c .z (.c (.s .z) (.c (.s (.s .z)) (.c (.s (.s (.s .z))) (.c (.s (.s (.s (.s .z)))) .n))))) (.c .z (.c .z .nil))
              · refine lRdG rfl .z (decide_eq_false h24) (dFld fld_23_1 (by decide) (.t (.s (.s (.s (.s (.s (.s (.s (.s (.s (.s (.s (.s (.s (.s (.s (.s (.s .z)))))))))))))))))) rfl) rfl rfl ?_
                refine lRdG rfl (.s .z) (decide_eq_false h24) (dLoad .z agg_5 (.t .z) rfl) rfl rfl ?_
                refine lRdG rfl (.s (.s .z)) (decide_eq_false h24) (dEqB (.t .z) (.c (v' := vB 107) rfl)) rfl rfl ?_
                refine lRd (dPickF (.t (.s (.s (.s .z)))) (decide_eq_false h24) (.t .z)) rfl rfl ?_
                refine lRd (dAssign (.t .z)) rfl rfl ?_
                refine lKeep (.k (.d (.d (.d (.d (.d (.d (.d (.d (.d (.d (.d (.d (.d (.d (.d (.d (.d (.d (.d (.k (.k (.k (.k .n)))))))))))))))))))))))) ?_
                refine lNil ?_
                exact xJoin (decide (a0.f_Byte = (107 : UInt8))) () (.c .z (.c (.s .z) (.c (.s (.s .z)) (.c (.s (.s (.s .z))) (.c (.s (.s (.s (.s .z)))) .n))))) (.c .z (.c .z .nil))
        · refine xCode ?_
          refine cSeq ?_
          refine cRegion ?_
          refine lRd (dMove (.t (.s .z))) rfl rfl ?_
          refine lCall fok_12 (.c (.t .z) .n) (keyboard_Named_c K o6) (.r (.s .z) .n) rfl rfl fun o27 x28 h29 => ?_
          refine lRd (dMove (.t .z)) rfl rfl ?_
          refine lRd (dExtract (.t .z) rfl) rfl rfl ?_
          refine lRd (dExtract (.t (.s .z)) rfl) rfl rfl ?_
          refine lCh (cAlloc (cs := [.int .i64 0, vB 0]) zer_23 rfl) rfl rfl fun b30 => ?_
          refine lChU (uStoreA (us := [.int .i64 o27.1.f_Kind, vB o27.1.f_Byte]) (cs' := [.int .i64 o27.1.f_Kind, vB o27.1.f_Byte]) .z siz_23 rfl (by intro u hu; simp only [List.mem_cons, List.not_mem_nil, or_false] at hu; rcases hu with rfl | rfl <;> first | rfl | assumption) rfl (by simp) (.t .z) (.t (.s (.s .z)))) ?_
          refine lRd (dAssign (.t (.s .z))) rfl rfl ?_
          refine lKeep (.k (.k (.d (.d (.d (.d (.d (.k (.k (.k (.k (.k .n)))))))))))) ?_
          refine lNil ?_
          refine xCode ?_
          refine cSeq ?_
          refine cSeq ?_
          refine cJoin (S := Bool) (X := Unit) (fun (s : Bool) (x : Unit) => [(74, .bool s), (4, .bool false), (1, vS a1)]) (fun (s : Bool) (x : Unit) => [.blk b30 [.int .i64 o27.1.f_Kind, vB o27.1.f_Byte] 23, .blk b1 [.int .i64 a0.f_Kind, vB a0.f_Byte] 23, .ro (kVar 0 83) [] (glob_0.map vS)]) ?_ (fun s40 x41 => ?_)
          · refine cRegion ?_
            refine lRd (dFld fld_23_1 (by decide) (.t (.s (.s (.s (.s (.s .z)))))) rfl) rfl rfl ?_
            refine lRd (dLoad (.s .z) agg_5 (.t .z) rfl) rfl rfl ?_
            refine lCall fok_13 (.c (.t .z) .n) (keyboard_Short_c a0.f_Byte) .n rfl rfl fun o31 x32 h33 => ?_
            refine lRd (dMove (.t (.s (.s (.s (.s (.s .z))))))) rfl rfl ?_
            refine lRd (dNeO und_4 (.t (.s .z)) (.t .z)) rfl rfl ?_
            refine lRd (dMove (.t .z)) rfl rfl ?_
            refine lCase (fun h34 => ?_) (fun h34 => ?_)
            · refine lPass rfl .z (nbF (decide_eq_true h34)) rfl ?_
              refine lPass rfl .z (nbF (decide_eq_true h34)) rfl ?_
              refine lPass rfl .z (nbF (decide_eq_true h34)) rfl ?_
              refine lPass rfl .z (nbF (decide_eq_true h34)) rfl ?_
              refine lRd (dPickT (.t .z) (decide_eq_true h34) (.c rfl)) rfl rfl ?_
              refine lRd (dMove (.t .z)) rfl rfl ?_
              refine lPass rfl .z (nbF rfl) rfl ?_
              refine lPassU rfl .z (nbF rfl) rfl rfl ?_
              refine lPass rfl .z nbU rfl ?_
              refine lPass rfl .z nbU rfl ?_
              refine lPass rfl .z nbU rfl ?_
              refine lPass rfl .z nbU rfl ?_
              refine lPass rfl (.s .z) (nbF rfl) rfl ?_
              refine lRd (dPickT (.t (.s .z)) rfl (.c rfl)) rfl rfl ?_
              refine lKeep (.k (.d (.d (.d (.d (.d (.d (.d (.d (.d (.d (.d (.d (.d (.k (.d (.k .n))))))))))))))))) ?_
              refine lNil ?_
              exact xJoin true () (.c .z (.c (.s .z) (.c (.s (.s .z)) .n))) (.c .z (.c .z (.c .z .nil)))
            · refine lRdG rfl .z (decide_eq_false h34) (dMove (.t (.s (.s (.s (.s (.s (.s .z)))))))) rfl rfl ?_
              refine lRdG rfl (.s .z) (decide_eq_false h34) (dMove (.t (.s (.s (.s (.s (.s (.s (.s (.s (.s (.s .z)))))))))))) rfl rfl ?_
              refine lRdG rfl (.s (.s .z)) (decide_eq_false h34) (dNeS (.t .z) (.c (v' := vS ([] : List UInt8)) rfl)) rfl rfl ?_
              refine lRdG rfl (.s (.s (.s .z))) (decide_eq_false h34) (dNeO und_4 (.t (.s (.s .z))) (.t .z)) rfl rfl ?_
              refine lRd (dPickF (.t (.s (.s (.s (.s .z))))) (decide_eq_false h34) (.t .z)) rfl rfl ?_
              refine lRd (dMove (.t .z)) rfl rfl ?_
              refine lCase (fun h35 => ?_) (fun h35 => ?_)
              · refine lPass rfl .z (nbF (decide_eq_true h35)) rfl ?_
                refine lPassU rfl .z (nbF (decide_eq_true h35)) rfl rfl ?_
                refine lPass rfl .z nbU rfl ?_
                refine lPass rfl .z nbU rfl ?_
                refine lPass rfl .z nbU rfl ?_
                refine lPass rfl .z nbU rfl ?_
                refine lPass rfl (.s .z) (nbF (decide_eq_true h35)) rfl ?_
                refine lRd (dPickT (.t (.s .z)) (decide_eq_true h35) (.c rfl)) rfl rfl ?_
                refine lKeep (.k (.d (.d (.d (.d (.d (.d (.d (.d (.d (.d (.d (.d (.d (.d (.d (.d (.d (.k (.d (.k .n))))))))))))))))))))) ?_
                refine lNil ?_
                exact xJoin true () (.c .z (.c (.s .z) (.c (.s (.s .z)) .n))) (.c .z (.c .z (.c .z .nil)))
              · refine lRdG rfl .z (decide_eq_false h35) (dMove (.t (.s (.s (.s (.s (.s (.s (.s (.s (.s (.s (.s (.s .z)))))))))))))) rfl rfl ?_
                refine lRdG rfl (.s .z) (decide_eq_false h35) (dMove (.t .z)) rfl rfl ?_
                refine lCase (fun h36 => ?_) (fun h36 => ?_)
                · refine lRdG rfl .z h36 (dLoadA (us := [.int .i64 o27.1.f_Kind, vB o27.1.f_Byte]) .z agg_23 siz_23 rfl (.t (.s (.s (.s (.s (.s (.s (.s (.s (.s (.s (.s (.s (.s (.s (.s .z)))))))))))))))) rfl) rfl rfl ?_
                  refine lCallG rfl (.s .z) h36 fok_9 (.c (.t .z) .n) (keyboard_Name_c o27.1) (.r (.s (.s .z)) .n) rfl rfl fun o37 x38 h39 => ?_
                  refine lRdG rfl (.s (.s .z)) h36 (dMove (.t (.s (.s (.s (.s (.s (.s (.s (.s (.s (.s (.s (.s (.s (.s (.s (.s (.s (.s (.s .z))))))))))))))))))))) rfl rfl ?_
                  refine lRdG rfl (.s (.s (.s .z))) h36 (dNeS (.t (.s .z)) (.t .z)) rfl rfl ?_
                  refine lRdG rfl (.s (.s (.s (.s (.s (.s .z)))))) (decide_eq_false h35) (dPickT (.t (.s (.s (.s (.s .z))))) h36 (.t .z)) rfl rfl ?_
                  refine lRd (dPickF (.t (.s (.s (.s (.s (.s (.s (.s .z)))))))) (decide_eq_false h35) (.t .z)) rfl rfl ?_
                  refine lKeep (.k (.d (.d (.d (.d (.d (.d (.d (.d (.d (.d (.d (.d (.d (.d (.d (.d (.d (.d (.d (.d (.d (.d (.d (.k (.d (.k .n))))))))))))))))))))))))))) ?_
                  refine lNil ?_
                  exact xJoin (decide (o37 ≠ o6)) () (.c .z (.c (.s .z) (.c (.s (.s .z)) .n))) (.c .z (.c .z (.c .z .nil)))
                · refine lPass rfl .z (nbT (Bool.eq_false_iff.mpr h36)) rfl ?_
                  refine lPass rfl .z (nbT (Bool.eq_false_iff.mpr h36)) rfl ?_
                  refine lPass rfl .z (nbT (Bool.eq_false_iff.mpr h36)) rfl ?_
                  refine lPass rfl .z (nbT (Bool.eq_false_iff.mpr h36)) rfl ?_
                  refine lRdG rfl (.s (.s .z)) (decide_eq_false h35) (dPickF (.t .z) (Bool.eq_false_iff.mpr h36) (.c rfl)) rfl rfl ?_
                  refine lRd (dPickF (.t (.s (.s (.s .z)))) (decide_eq_false h35) (.t .z)) rfl rfl ?_
                  refine lKeep (.k (.d (.d (.d (.d (.d (.d (.d (.d (.d (.d (.d (.d (.d (.d (.d (.d (.d (.d (.d (.k (.d (.k .n))))))))))))))))))))))) ?_
                  refine lNil ?_
                  exact xJoin false () (.c .z (.c (.s .z) (.c (.s (.s .z)) .n))) (.c .z (.c .z (.c .z .nil)))
          · refine xCode ?_
            refine cCondB (.t .z) (fun h42 => ?_) (fun h42 => ?_)
            · refine cSeq ?_
              refine cRegion ?_
              refine lRdK (dAssign (.c rfl)) (.k (.d (Keep.refl _))) rfl rfl ?_
              refine lKeep (.k (.d (.k .n))) ?_
              refine lNil ?_
              refine xCode ?_
              refine cRet ?_
              exact rDone (rs := [.tmp 4]) rfl (.t .z .n) hD (.inl rfl) () rfl .nil
            · refine cSkip ?_
              refine xCode ?_
              refine cSeq ?_
              refine cRegion ?_
              refine lRd (dMove (.t (.s (.s .z)))) rfl rfl ?_
              refine lCall fok_12 (.c (.t .z) .n) (keyboard_Named_c K a1) (.r (.s (.s .z)) .n) rfl rfl fun o43 x44 h45 => ?_
              refine lRd (dMove (.t .z)) rfl rfl ?_
              refine lRd (dExtract (.t .z) rfl) rfl rfl ?_
              refine lRd (dExtract (.t (.s .z)) rfl) rfl rfl ?_
              refine lCh (cAlloc (cs := [.int .i64 0, vB 0]) zer_23 rfl) rfl rfl fun b46 => ?_
              refine lChU (uStoreA (us := [.int .i64 o43.1.f_Kind, vB o43.1.f_Byte]) (cs' := [.int .i64 o43.1.f_Kind, vB o43.1.f_Byte]) .z siz_23 rfl (by intro u hu; simp only [List.mem_cons, List.not_mem_nil, or_false] at hu; rcases hu with rfl | rfl <;> first | rfl | assumption) rfl (by simp) (.t .z) (.t (.s (.s .z)))) ?_
              refine lRd (dAssign (.t (.s .z))) rfl rfl ?_
              refine lKeep (.k (.k (.d (.d (.d (.d (.d (.d (.k (.k .n)))))))))) ?_
              refine lNil ?_
              refine xCode ?_
              refine cSeq ?_
              refine cRegion ?_
              refine lRd (dMove (.t .z)) rfl rfl ?_
              refine lRd (dNot (.t .z)) rfl rfl ?_
              refine lRd (dMove (.t .z)) rfl rfl ?_
              refine lCase (fun h47 => ?_) (fun h47 => ?_)
              · refine lRdG rfl .z h47 (dLoadA (us := [.int .i64 o43.1.f_Kind, vB o43.1.f_Byte]) .z agg_23 siz_23 rfl (.t (.s (.s (.s (.s .z))))) rfl) rfl rfl ?_
                refine lRdG rfl (.s .z) h47 (dBuild (cs := [.int .i64 0, vB 0]) zer_23 rfl plc_23 .n rfl) rfl rfl ?_
                refine lRdG rfl (.s (.s .z)) h47 (dEqA eqg_23 (eqa_23 o43.1 (⟨0, 0⟩ : keyboard_Key)) (.t (.s .z)) (.t .z)) rfl rfl ?_
                refine lRd (dPickT (.t (.s (.s (.s .z)))) h47 (.t .z)) rfl rfl ?_
                refine lRd (dMove (.t .z)) rfl rfl ?_
                refine lCase (fun h48 => ?_) (fun h48 => ?_)
                · refine lPass rfl .z (nbF (decide_eq_true h48)) rfl ?_
                  refine lPassU rfl .z (nbF (decide_eq_true h48)) rfl rfl ?_
                  refine lPass rfl .z nbU rfl ?_
                  refine lPass rfl .z nbU rfl ?_
                  refine lPass rfl .z nbU rfl ?_
                  refine lPass rfl .z nbU rfl ?_
                  refine lPass rfl (.s .z) (nbF (decide_eq_true h48)) rfl ?_
                  refine lPassU rfl (.s .z) (nbF (decide_eq_true h48)) rfl rfl ?_
                  refine lPass rfl .z nbU rfl ?_
                  refine lPass rfl .z nbU rfl ?_
                  refine lPass rfl (.s (.s .z)) (nbF (decide_eq_true h48)) rfl ?_
                  refine lRd (dPickT (.t (.s (.s .z))) (decide_eq_true h48) (.c rfl)) rfl rfl ?_
                  refine lRdK (dAssign (.t .z)) (.k (.k (.k (.k (.k (.k (.k (.k (.k (.k (.k (.k (.k (.d (Keep.refl _))))))))))))))) rfl rfl ?_
                  refine lKeep (.k .n) ?_
                  refine lNil ?_
                  refine xCode ?_
                  refine cRet ?_
                  exact rDone (rs := [.tmp 4]) rfl (.t .z .n) hD (.inl rfl) () rfl .nil
                · refine lRdG rfl .z (decide_eq_false h48) (dMove (.t (.s (.s (.s (.s (.s (.s (.s (.s .z)))))))))) rfl rfl ?_
                  refine lRdG rfl (.s .z) (decide_eq_false h48) (dMove (.t .z)) rfl rfl ?_
                  refine lCase (fun h49 => ?_) (fun h49 => ?_)
                  · refine lRdG rfl .z h49 (dLoadA (us := [.int .i64 o43.1.f_Kind, vB o43.1.f_Byte]) .z agg_23 siz_23 rfl (.t (.s (.s (.s (.s (.s (.s (.s (.s (.s (.s (.s .z)))))))))))) rfl) rfl rfl ?_
                    refine lCallG rfl (.s .z) h49 fok_9 (.c (.t .z) .n) (keyboard_Name_c o43.1) (.r (.s (.s (.s .z))) .n) rfl rfl fun o50 x51 h52 => ?_
                    refine lRdG rfl (.s (.s .z)) h49 (dMove (.t (.s (.s (.s (.s (.s (.s (.s (.s (.s (.s (.s (.s (.s (.s (.s .z))))))))))))))))) rfl rfl ?_
                    refine lRdG rfl (.s (.s (.s .z))) h49 (dEqS (.t (.s .z)) (.t .z)) rfl rfl ?_
                    refine lRdG rfl (.s (.s (.s (.s (.s (.s .z)))))) (decide_eq_false h48) (dPickT (.t (.s (.s (.s (.s .z))))) h49 (.t .z)) rfl rfl ?_
                    refine lRdG rfl (.s (.s (.s (.s (.s (.s (.s .z))))))) (decide_eq_false h48) (dMove (.t .z)) rfl rfl ?_
                    refine lCase (fun h53 => ?_) (fun h53 => ?_)
                    · refine lRdG rfl .z (decide_eq_true h53) (dMove (.t (.s (.s (.s (.s (.s (.s (.s (.s (.s (.s (.s (.s (.s (.s (.s (.s (.s (.s (.s .z))))))))))))))))))))) rfl rfl ?_
                      refine lRdG rfl (.s .z) (decide_eq_true h53) (dNeS (.t .z) (.c (v' := vS ([] : List UInt8)) rfl)) rfl rfl ?_
                      refine lRdG rfl (.s (.s (.s (.s (.s (.s (.s (.s (.s (.s .z)))))))))) (decide_eq_false h48) (dPickT (.t (.s (.s .z))) (decide_eq_true h53) (.t .z)) rfl rfl ?_
                      refine lRd (dPickF (.t (.s (.s (.s (.s (.s (.s (.s (.s (.s (.s (.s .z)))))))))))) (decide_eq_false h48) (.t .z)) rfl rfl ?_
                      refine lRdK (dAssign (.t .z)) (.k (.k (.k (.k (.k (.k (.k (.k (.k (.k (.k (.k (.k (.k (.k (.k (.k (.k (.k (.k (.k (.k (.d (Keep.refl _)))))))))))))))))))))))) rfl rfl ?_
                      refine lKeep (.k .n) ?_
                      refine lNil ?_
                      refine xCode ?_
                      refine cRet ?_
                      exact rDone (rs := [.tmp 4]) rfl (.t .z .n) hD (.inl rfl) () rfl .nil
                    · refine lPass rfl .z (nbT (decide_eq_false h53)) rfl ?_
                      refine lPass rfl .z (nbT (decide_eq_false h53)) rfl ?_
                      refine lRdG rfl (.s (.s (.s (.s (.s (.s (.s (.s .z)))))))) (decide_eq_false h48) (dPickF (.t .z) (decide_eq_false h53) (.c rfl)) rfl rfl ?_
                      refine lRd (dPickF (.t (.s (.s (.s (.s (.s (.s (.s (.s (.s .z)))))))))) (decide_eq_false h48) (.t .z)) rfl rfl ?_
                      refine lRdK (dAssign (.t .z)) (.k (.k (.k (.k (.k (.k (.k (.k (.k (.k (.k (.k (.k (.k (.k (.k (.k (.k (.k (.k (.d (Keep.refl _)))))))))))))))))))))) rfl rfl ?_
                      refine lKeep (.k .n) ?_
                      refine lNil ?_
                      refine xCode ?_
                      refine cRet ?_
                      exact rDone (rs := [.tmp 4]) rfl (.t .z .n) hD (.inl rfl) () rfl .nil
                  · refine lPass rfl .z (nbT (Bool.eq_false_iff.mpr h49)) rfl ?_
                    refine lPass rfl .z (nbT (Bool.eq_false_iff.mpr h49)) rfl ?_
                    refine lPass rfl .z (nbT (Bool.eq_false_iff.mpr h49)) rfl ?_
                    refine lPass rfl .z (nbT (Bool.eq_false_iff.mpr h49)) rfl ?_
                    refine lRdG rfl (.s (.s .z)) (decide_eq_false h48) (dPickF (.t .z) (Bool.eq_false_iff.mpr h49) (.c rfl)) rfl rfl ?_
                    refine lRdG rfl (.s (.s (.s .z))) (decide_eq_false h48) (dMove (.t .z)) rfl rfl ?_
                    refine lPass rfl .z (nbT rfl) rfl ?_
                    refine lPass rfl .z (nbT rfl) rfl ?_
                    refine lRdG rfl (.s (.s (.s (.s .z)))) (decide_eq_false h48) (dPickF (.t .z) rfl (.c rfl)) rfl rfl ?_
                    refine lRd (dPickF (.t (.s (.s (.s (.s (.s .z)))))) (decide_eq_false h48) (.t .z)) rfl rfl ?_
                    refine lRdK (dAssign (.t .z)) (.k (.k (.k (.k (.k (.k (.k (.k (.k (.k (.k (.k (.k (.k (.k (.k (.d (Keep.refl _)))))))))))))))))) rfl rfl ?_
                    refine lKeep (.k .n) ?_
                    refine lNil ?_
                    refine xCode ?_
                    refine cRet ?_
                    exact rDone (rs := [.tmp 4]) rfl (.t .z .n) hD (.inl rfl) () rfl .nil
              · refine lPass rfl .z (nbT (Bool.eq_false_iff.mpr h47)) rfl ?_
                refine lPass rfl .z (nbT (Bool.eq_false_iff.mpr h47)) rfl ?_
                refine lPass rfl .z (nbT (Bool.eq_false_iff.mpr h47)) rfl ?_
                refine lRd (dPickF (.t .z) (Bool.eq_false_iff.mpr h47) (.c rfl)) rfl rfl ?_
                refine lRd (dMove (.t .z)) rfl rfl ?_
                refine lRdG rfl .z rfl (dMove (.t (.s (.s (.s (.s (.s .z))))))) rfl rfl ?_
                refine lRdG rfl (.s .z) rfl (dMove (.t .z)) rfl rfl ?_
                refine lCase (fun h54 => ?_) (fun h54 => ?_)
                · refine lRdG rfl .z h54 (dLoadA (us := [.int .i64 o43.1.f_Kind, vB o43.1.f_Byte]) .z agg_23 siz_23 rfl (.t (.s (.s (.s (.s (.s (.s (.s (.s .z))))))))) rfl) rfl rfl ?_
                  refine lCallG rfl (.s .z) h54 fok_9 (.c (.t .z) .n) (keyboard_Name_c o43.1) (.r (.s (.s (.s .z))) .n) rfl rfl fun o55 x56 h57 => ?_
                  refine lRdG rfl (.s (.s .z)) h54 (dMove (.t (.s (.s (.s (.s (.s (.s (.s (.s (.s (.s (.s (.s .z)))))))))))))) rfl rfl ?_
                  refine lRdG rfl (.s (.s (.s .z))) h54 (dEqS (.t (.s .z)) (.t .z)) rfl rfl ?_
                  refine lRdG rfl (.s (.s (.s (.s (.s (.s .z)))))) rfl (dPickT (.t (.s (.s (.s (.s .z))))) h54 (.t .z)) rfl rfl ?_
                  refine lRdG rfl (.s (.s (.s (.s (.s (.s (.s .z))))))) rfl (dMove (.t .z)) rfl rfl ?_
                  refine lCase (fun h58 => ?_) (fun h58 => ?_)
                  · refine lRdG rfl .z (decide_eq_true h58) (dMove (.t (.s (.s (.s (.s (.s (.s (.s (.s (.s (.s (.s (.s (.s (.s (.s (.s .z)))))))))))))))))) rfl rfl ?_
                    refine lRdG rfl (.s .z) (decide_eq_true h58) (dNeS (.t .z) (.c (v' := vS ([] : List UInt8)) rfl)) rfl rfl ?_
                    refine lRdG rfl (.s (.s (.s (.s (.s (.s (.s (.s (.s (.s .z)))))))))) rfl (dPickT (.t (.s (.s .z))) (decide_eq_true h58) (.t .z)) rfl rfl ?_
                    refine lRd (dPickF (.t (.s (.s (.s (.s (.s (.s (.s (.s (.s (.s (.s .z)))))))))))) rfl (.t .z)) rfl rfl ?_
                    refine lRdK (dAssign (.t .z)) (.k (.k (.k (.k (.k (.k (.k (.k (.k (.k (.k (.k (.k (.k (.k (.k (.k (.k (.k (.d (Keep.refl _))))))))))))))))))))) rfl rfl ?_
                    refine lKeep (.k .n) ?_
                    refine lNil ?_
                    refine xCode ?_
                    refine cRet ?_
                    exact rDone (rs := [.tmp 4]) rfl (.t .z .n) hD (.inl rfl) () rfl .nil
                  · refine lPass rfl .z (nbT (decide_eq_false h58)) rfl ?_
                    refine lPass rfl .z (nbT (decide_eq_false h58)) rfl ?_
                    refine lRdG rfl (.s (.s (.s (.s (.s (.s (.s (.s .z)))))))) rfl (dPickF (.t .z) (decide_eq_false h58) (.c rfl)) rfl rfl ?_
                    refine lRd (dPickF (.t (.s (.s (.s (.s (.s (.s (.s (.s (.s .z)))))))))) rfl (.t .z)) rfl rfl ?_
                    refine lRdK (dAssign (.t .z)) (.k (.k (.k (.k (.k (.k (.k (.k (.k (.k (.k (.k (.k (.k (.k (.k (.k (.d (Keep.refl _))))))))))))))))))) rfl rfl ?_
                    refine lKeep (.k .n) ?_
                    refine lNil ?_
                    refine xCode ?_
                    refine cRet ?_
                    exact rDone (rs := [.tmp 4]) rfl (.t .z .n) hD (.inl rfl) () rfl .nil
                · refine lPass rfl .z (nbT (Bool.eq_false_iff.mpr h54)) rfl ?_
                  refine lPass rfl .z (nbT (Bool.eq_false_iff.mpr h54)) rfl ?_
                  refine lPass rfl .z (nbT (Bool.eq_false_iff.mpr h54)) rfl ?_
                  refine lPass rfl .z (nbT (Bool.eq_false_iff.mpr h54)) rfl ?_
                  refine lRdG rfl (.s (.s .z)) rfl (dPickF (.t .z) (Bool.eq_false_iff.mpr h54) (.c rfl)) rfl rfl ?_
                  refine lRdG rfl (.s (.s (.s .z))) rfl (dMove (.t .z)) rfl rfl ?_
                  refine lPass rfl .z (nbT rfl) rfl ?_
                  refine lPass rfl .z (nbT rfl) rfl ?_
                  refine lRdG rfl (.s (.s (.s (.s .z)))) rfl (dPickF (.t .z) rfl (.c rfl)) rfl rfl ?_
                  refine lRd (dPickF (.t (.s (.s (.s (.s (.s .z)))))) rfl (.t .z)) rfl rfl ?_
                  refine lRdK (dAssign (.t .z)) (.k (.k (.k (.k (.k (.k (.k (.k (.k (.k (.k (.k (.k (.d (Keep.refl _))))))))))))))) rfl rfl ?_
                  refine lKeep (.k .n) ?_
                  refine lNil ?_
                  refine xCode ?_
                  refine cRet ?_
                  exact rDone (rs := [.tmp 4]) rfl (.t .z .n) hD (.inl rfl) () rfl .nil

end Go.Proofs.YtecipnjloenndaaGreatDoor.G
