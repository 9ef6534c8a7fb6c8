/-
The walk of law22_KeyboardShorts, by program: each function's model, and its contract. Part 0.
-/
import Derived.Test.YtecipnjloenndaaDoorSXp
import Derived.Test.YtecipnjloenndaaDoorProg
set_option linter.unusedVariables false
set_option linter.unusedSimpArgs false
set_option maxRecDepth 20000
set_option maxHeartbeats 2000000
namespace Go.Proofs.YtecipnjloenndaaDoor.G
open Go Go.RowKit Go.Proofs.YtecipnjloenndaaDoor.SX
structure keyboard_Key where
  f_Kind : Int
  f_Byte : UInt8
deriving DecidableEq, Inhabited

theorem struct_ext_keyboard_Key (x y : keyboard_Key) : x = y ↔ x.f_Kind = y.f_Kind ∧ x.f_Byte = y.f_Byte := by cases x; cases y; simp
def k_keyboard_Key : Kind keyboard_Key := Kind.flat 2 (fun x => [.int .i64 x.f_Kind, vB x.f_Byte]) (fun _ => rfl) fun x c h => by
  simp only [List.mem_cons, List.not_mem_nil, or_false] at h
  rcases h with rfl | rfl <;> rfl
structure api_Size where
  f_Rows : Int
  f_Cols : Int
deriving DecidableEq, Inhabited

theorem struct_ext_api_Size (x y : api_Size) : x = y ↔ x.f_Rows = y.f_Rows ∧ x.f_Cols = y.f_Cols := by cases x; cases y; simp
def k_api_Size : Kind api_Size := Kind.flat 2 (fun x => [.int .i64 x.f_Rows, .int .i64 x.f_Cols]) (fun _ => rfl) fun x c h => by
  simp only [List.mem_cons, List.not_mem_nil, or_false] at h
  rcases h with rfl | rfl <;> rfl
structure api_Cell where
  f_Byte : UInt8
  f_GE : Bool
  f_Start : Bool
  f_Light : UInt8
  f_Color : UInt8
deriving DecidableEq, Inhabited

theorem struct_ext_api_Cell (x y : api_Cell) : x = y ↔ x.f_Byte = y.f_Byte ∧ x.f_GE = y.f_GE ∧ x.f_Start = y.f_Start ∧ x.f_Light = y.f_Light ∧ x.f_Color = y.f_Color := by cases x; cases y; simp
def k_api_Cell : Kind api_Cell := Kind.flat 5 (fun x => [vB x.f_Byte, .bool x.f_GE, .bool x.f_Start, vB x.f_Light, vB x.f_Color]) (fun _ => rfl) fun x c h => by
  simp only [List.mem_cons, List.not_mem_nil, or_false] at h
  rcases h with rfl | rfl | rfl | rfl | rfl <;> rfl
structure plane_Plane where
  f_size : api_Size
  f_cells : (List api_Cell)
  f_cursor : Int
deriving DecidableEq, Inhabited

theorem struct_ext_plane_Plane (x y : plane_Plane) : x = y ↔ x.f_size = y.f_size ∧ x.f_cells = y.f_cells ∧ x.f_cursor = y.f_cursor := by cases x; cases y; simp
def k_plane_Plane : Kind plane_Plane where
  n := 4
  rd R cs x := ∃ v2 : Value, cs = [.int .i64 x.f_size.f_Rows, .int .i64 x.f_size.f_Cols, v2, .int .i64 x.f_cursor] ∧ (kSl k_api_Cell).rd R [v2] x.f_cells
  mono {R R' cs x} hR h := by
    obtain ⟨v2, rfl, h2⟩ := h
    exact ⟨v2, rfl, Kind.mono _ hR h2⟩
  len {R cs x} h := by
    obtain ⟨v2, rfl, _⟩ := h
    rfl
  one {R cs x} h := by
    obtain ⟨v2, rfl, h2⟩ := h
    intro c hc
    simp only [List.mem_cons, List.not_mem_nil, or_false] at hc
    rcases hc with rfl | rfl | rfl | rfl
    · rfl
    · rfl
    · exact Kind.one _ h2 _ (by simp)
    · rfl
theorem open_plane_Plane (x : plane_Plane) : ∀ R cs, k_plane_Plane.rd R cs x → ∃ z : Value, cs = [.int .i64 x.f_size.f_Rows, .int .i64 x.f_size.f_Cols, z, .int .i64 x.f_cursor] ∧ sat R [.ro (kSl k_api_Cell) [z] x.f_cells] PH.emp := by
  intro R cs h
  obtain ⟨v2, rfl, h2⟩ := h
  exact ⟨v2, rfl, (satRo h2 satNil)⟩

structure screen_Screen where
  f_sizes_0 : api_Size
  f_sizes_1 : api_Size
  f_which : Int
  f_p : plane_Plane
deriving Inhabited

structure lock_Lock where
  f_state : Int
  f_why : Int
  f_turns : Int
deriving DecidableEq, Inhabited

theorem struct_ext_lock_Lock (x y : lock_Lock) : x = y ↔ x.f_state = y.f_state ∧ x.f_why = y.f_why ∧ x.f_turns = y.f_turns := by cases x; cases y; simp
def k_lock_Lock : Kind lock_Lock := Kind.flat 3 (fun x => [.int .i64 x.f_state, .int .i64 x.f_why, .int .i64 x.f_turns]) (fun _ => rfl) fun x c h => by
  simp only [List.mem_cons, List.not_mem_nil, or_false] at h
  rcases h with rfl | rfl | rfl <;> rfl
structure keyboard_Keyboard where
  f_s : screen_Screen
  f_l : lock_Lock
  f_insert : Bool
  f_last : UInt8
deriving Inhabited

structure field_Field where
  f_Start : Int
  f_Len : Int
  f_Attr : UInt8
deriving DecidableEq, Inhabited

theorem struct_ext_field_Field (x y : field_Field) : x = y ↔ x.f_Start = y.f_Start ∧ x.f_Len = y.f_Len ∧ x.f_Attr = y.f_Attr := by cases x; cases y; simp
def k_field_Field : Kind field_Field := Kind.flat 3 (fun x => [.int .i64 x.f_Start, .int .i64 x.f_Len, vB x.f_Attr]) (fun _ => rfl) fun x c h => by
  simp only [List.mem_cons, List.not_mem_nil, or_false] at h
  rcases h with rfl | rfl | rfl <;> rfl
structure screen_Result where
  f_Reply : UInt8
  f_Restore : Bool
  f_Alarm : Bool
  f_Err : Int
deriving DecidableEq, Inhabited

theorem struct_ext_screen_Result (x y : screen_Result) : x = y ↔ x.f_Reply = y.f_Reply ∧ x.f_Restore = y.f_Restore ∧ x.f_Alarm = y.f_Alarm ∧ x.f_Err = y.f_Err := by cases x; cases y; simp
def k_screen_Result : Kind screen_Result := Kind.flat 4 (fun x => [vB x.f_Reply, .bool x.f_Restore, .bool x.f_Alarm, .int .i64 x.f_Err]) (fun _ => rfl) fun x c h => by
  simp only [List.mem_cons, List.not_mem_nil, or_false] at h
  rcases h with rfl | rfl | rfl | rfl <;> rfl
def glob_0 : List (List UInt8) := [[], [], [84, 65, 66], [66, 65, 67, 75, 84, 65, 66], [78, 69, 87, 76, 73, 78, 69], [72, 79, 77, 69], [85, 80], [68, 79, 87, 78], [76, 69, 70, 84], [82, 73, 71, 72, 84], [69, 82, 65, 83, 69, 69, 78, 68], [69, 82, 65, 83, 69, 73, 78, 80, 85, 84], [68, 69, 76, 69, 84, 69], [73, 78, 83, 69, 82, 84], [68, 85, 80], [77, 65, 82, 75], [82, 69, 83, 69, 84]]
theorem mixed : Tryd.prog.follows .mixedOrders = true := by kernel_rfl
theorem som_5 : (Tryd.prog.underlying 5).isSome = true := by kernel_rfl
theorem und_3 : Tryd.prog.underlying 3 = some (.int .i64) := by kernel_rfl
theorem und_9 : Tryd.prog.underlying 9 = some (.string) := by kernel_rfl
theorem som_112 : (Tryd.prog.underlying 112).isSome = true := by kernel_rfl
theorem und_5 : Tryd.prog.underlying 5 = some (.int .u8) := by kernel_rfl
theorem fok_95 : fnOk Tryd.prog 95 = true := by kernel_rfl
theorem fok_94 : fnOk Tryd.prog 94 = true := by kernel_rfl
theorem fok_85 : fnOk Tryd.prog 85 = true := by kernel_rfl
theorem zer_111 : zeroT Tryd.prog 111 = some (.agg #[.int .u8 0, .int .u8 0, .int .u8 0, .int .u8 0, .int .u8 0, .int .u8 0, .int .u8 0, .int .u8 0, .int .u8 0, .int .u8 0, .int .u8 0, .int .u8 0, .int .u8 0, .int .u8 0, .int .u8 0, .int .u8 0, .int .u8 0, .int .u8 0, .int .u8 0, .int .u8 0, .int .u8 0, .int .u8 0, .int .u8 0, .int .u8 0]) := by kernel_rfl
theorem som_2 : (Tryd.prog.underlying 2).isSome = true := by kernel_rfl
theorem und_112 : Tryd.prog.underlying 112 = some (.int .u64) := by kernel_rfl
theorem fok_72 : fnOk Tryd.prog 72 = true := by kernel_rfl
theorem fok_48 : fnOk Tryd.prog 48 = true := by kernel_rfl
theorem fok_33 : fnOk Tryd.prog 33 = true := by kernel_rfl
theorem fok_34 : fnOk Tryd.prog 34 = true := by kernel_rfl
theorem fok_20 : fnOk Tryd.prog 20 = true := by kernel_rfl
theorem fld_26_0 : fieldOf Tryd.prog 26 0 = some (0, 1, false) := by kernel_rfl
theorem agg_3 : aggT Tryd.prog 3 = some false := by kernel_rfl
theorem fld_26_1 : fieldOf Tryd.prog 26 1 = some (1, 1, false) := by kernel_rfl
theorem agg_5 : aggT Tryd.prog 5 = some false := by kernel_rfl
theorem fok_19 : fnOk Tryd.prog 19 = true := by kernel_rfl
theorem und_53 : Tryd.prog.underlying 53 = some (.array 17 9) := by kernel_rfl
theorem siz_9 : sizeT Tryd.prog 9 = some 1 := by kernel_rfl
theorem agg_9 : aggT Tryd.prog 9 = some false := by kernel_rfl
theorem fld_34_0 : fieldOf Tryd.prog 34 0 = some (0, 1, false) := by kernel_rfl
theorem fld_34_1 : fieldOf Tryd.prog 34 1 = some (1, 1, false) := by kernel_rfl
theorem agg_34 : aggT Tryd.prog 34 = some true := by kernel_rfl
theorem siz_34 : sizeT Tryd.prog 34 = some 2 := by kernel_rfl
theorem fok_21 : fnOk Tryd.prog 21 = true := by kernel_rfl
theorem und_69 : Tryd.prog.underlying 69 = some (.slice 50) := by kernel_rfl
theorem inf_50 : elemInfo Tryd.prog 50 = some (5, 5, 5) := by kernel_rfl
theorem zer_50 : zeroT Tryd.prog 50 = some (.agg #[.int .u8 0, .bool false, .bool false, .int .u8 0, .int .u8 0]) := by kernel_rfl
theorem zer_71 : zeroT Tryd.prog 71 = some (.agg #[.int .i64 0, .int .i64 0, .slice none 0 0, .int .i64 0]) := by kernel_rfl
theorem plc_71 : placesOf Tryd.prog 71 = some [(0, 2), (2, 1), (3, 1)] := by kernel_rfl
theorem fld_57_1 : fieldOf Tryd.prog 57 1 = some (4, 1, false) := by kernel_rfl
theorem siz_3 : sizeT Tryd.prog 3 = some 1 := by kernel_rfl
theorem fld_57_0 : fieldOf Tryd.prog 57 0 = some (0, 4, true) := by kernel_rfl
theorem und_55 : Tryd.prog.underlying 55 = some (.array 2 34) := by kernel_rfl
theorem fld_57_2 : fieldOf Tryd.prog 57 2 = some (5, 1, false) := by kernel_rfl
theorem siz_39 : sizeT Tryd.prog 39 = some 1 := by kernel_rfl
theorem fok_49 : fnOk Tryd.prog 49 = true := by kernel_rfl
theorem fok_35 : fnOk Tryd.prog 35 = true := by kernel_rfl
theorem zer_55 : zeroT Tryd.prog 55 = some (.agg #[.int .i64 0, .int .i64 0, .int .i64 0, .int .i64 0]) := by kernel_rfl
theorem zer_57 : zeroT Tryd.prog 57 = some (.agg #[.int .i64 0, .int .i64 0, .int .i64 0, .int .i64 0, .int .i64 0, .pointer none]) := by kernel_rfl
theorem plc_57 : placesOf Tryd.prog 57 = some [(0, 4), (4, 1), (5, 1)] := by kernel_rfl
theorem fok_22 : fnOk Tryd.prog 22 = true := by kernel_rfl
theorem zer_61 : zeroT Tryd.prog 61 = some (.agg #[.pointer none, .int .i64 0, .int .i64 0, .int .i64 0, .bool false, .int .u8 0]) := by kernel_rfl
theorem plc_61 : placesOf Tryd.prog 61 = some [(0, 1), (1, 3), (4, 1), (5, 1)] := by kernel_rfl
theorem fld_61_1 : fieldOf Tryd.prog 61 1 = some (1, 3, true) := by kernel_rfl
theorem agg_39 : aggT Tryd.prog 39 = some false := by kernel_rfl
theorem fld_59_0 : fieldOf Tryd.prog 59 0 = some (0, 1, false) := by kernel_rfl
theorem fld_59_2 : fieldOf Tryd.prog 59 2 = some (2, 1, false) := by kernel_rfl
theorem fld_59_1 : fieldOf Tryd.prog 59 1 = some (1, 1, false) := by kernel_rfl
theorem siz_30 : sizeT Tryd.prog 30 = some 1 := by kernel_rfl
theorem fok_30 : fnOk Tryd.prog 30 = true := by kernel_rfl
theorem fok_13 : fnOk Tryd.prog 13 = true := by kernel_rfl
theorem fok_7 : fnOk Tryd.prog 7 = true := by kernel_rfl
theorem fok_24 : fnOk Tryd.prog 24 = true := by kernel_rfl
theorem fok_36 : fnOk Tryd.prog 36 = true := by kernel_rfl
theorem fld_61_2 : fieldOf Tryd.prog 61 2 = some (4, 1, false) := by kernel_rfl
theorem siz_4 : sizeT Tryd.prog 4 = some 1 := by kernel_rfl
theorem fld_61_3 : fieldOf Tryd.prog 61 3 = some (5, 1, false) := by kernel_rfl
theorem siz_5 : sizeT Tryd.prog 5 = some 1 := by kernel_rfl
theorem fld_61_0 : fieldOf Tryd.prog 61 0 = some (0, 1, false) := by kernel_rfl
theorem agg_29 : aggT Tryd.prog 29 = some false := by kernel_rfl
theorem fld_71_1 : fieldOf Tryd.prog 71 1 = some (2, 1, false) := by kernel_rfl
theorem agg_69 : aggT Tryd.prog 69 = some false := by kernel_rfl
theorem fok_32 : fnOk Tryd.prog 32 = true := by kernel_rfl
theorem fld_71_2 : fieldOf Tryd.prog 71 2 = some (3, 1, false) := by kernel_rfl
theorem fok_70 : fnOk Tryd.prog 70 = true := by kernel_rfl
theorem plc_50 : placesOf Tryd.prog 50 = some [(0, 1), (1, 1), (2, 1), (3, 1), (4, 1)] := by kernel_rfl
theorem siz_50 : sizeT Tryd.prog 50 = some 5 := by kernel_rfl
theorem agg_50 : aggT Tryd.prog 50 = some true := by kernel_rfl
theorem zer_34 : zeroT Tryd.prog 34 = some (.agg #[.int .i64 0, .int .i64 0]) := by kernel_rfl
theorem fld_71_0 : fieldOf Tryd.prog 71 0 = some (0, 2, true) := by kernel_rfl
theorem fok_58 : fnOk Tryd.prog 58 = true := by kernel_rfl
theorem fok_57 : fnOk Tryd.prog 57 = true := by kernel_rfl
theorem fok_75 : fnOk Tryd.prog 75 = true := by kernel_rfl
theorem fok_18 : fnOk Tryd.prog 18 = true := by kernel_rfl
theorem fld_50_2 : fieldOf Tryd.prog 50 2 = some (2, 1, false) := by kernel_rfl
theorem fok_89 : fnOk Tryd.prog 89 = true := by kernel_rfl
theorem zer_85 : zeroT Tryd.prog 85 = some (.agg #[.int .i64 0, .int .i64 0, .int .u8 0]) := by kernel_rfl
theorem fok_90 : fnOk Tryd.prog 90 = true := by kernel_rfl
theorem fld_50_0 : fieldOf Tryd.prog 50 0 = some (0, 1, false) := by kernel_rfl
theorem plc_85 : placesOf Tryd.prog 85 = some [(0, 1), (1, 1), (2, 1)] := by kernel_rfl
theorem siz_85 : sizeT Tryd.prog 85 = some 3 := by kernel_rfl
theorem agg_85 : aggT Tryd.prog 85 = some true := by kernel_rfl
theorem fok_73 : fnOk Tryd.prog 73 = true := by kernel_rfl
theorem fok_74 : fnOk Tryd.prog 74 = true := by kernel_rfl
theorem fok_53 : fnOk Tryd.prog 53 = true := by kernel_rfl
theorem fld_85_0 : fieldOf Tryd.prog 85 0 = some (0, 1, false) := by kernel_rfl
theorem fld_85_1 : fieldOf Tryd.prog 85 1 = some (1, 1, false) := by kernel_rfl
theorem fld_85_2 : fieldOf Tryd.prog 85 2 = some (2, 1, false) := by kernel_rfl
theorem fok_68 : fnOk Tryd.prog 68 = true := by kernel_rfl
theorem fok_55 : fnOk Tryd.prog 55 = true := by kernel_rfl
theorem fok_54 : fnOk Tryd.prog 54 = true := by kernel_rfl
theorem fok_52 : fnOk Tryd.prog 52 = true := by kernel_rfl
theorem fok_51 : fnOk Tryd.prog 51 = true := by kernel_rfl
theorem fok_50 : fnOk Tryd.prog 50 = true := by kernel_rfl
theorem fok_56 : fnOk Tryd.prog 56 = true := by kernel_rfl
theorem fok_59 : fnOk Tryd.prog 59 = true := by kernel_rfl
theorem zer_3 : zeroT Tryd.prog 3 = some (.int .i64 0) := by kernel_rfl
theorem fok_67 : fnOk Tryd.prog 67 = true := by kernel_rfl
theorem fok_84 : fnOk Tryd.prog 84 = true := by kernel_rfl
theorem fok_60 : fnOk Tryd.prog 60 = true := by kernel_rfl
theorem fok_37 : fnOk Tryd.prog 37 = true := by kernel_rfl
theorem fok_38 : fnOk Tryd.prog 38 = true := by kernel_rfl
theorem fok_39 : fnOk Tryd.prog 39 = true := by kernel_rfl
theorem fok_40 : fnOk Tryd.prog 40 = true := by kernel_rfl
theorem fok_41 : fnOk Tryd.prog 41 = true := by kernel_rfl
theorem fok_91 : fnOk Tryd.prog 91 = true := by kernel_rfl
theorem fok_76 : fnOk Tryd.prog 76 = true := by kernel_rfl
theorem fok_77 : fnOk Tryd.prog 77 = true := by kernel_rfl
theorem zer_99 : zeroT Tryd.prog 99 = some (.slice none 0 0) := by kernel_rfl
theorem agg_99 : aggT Tryd.prog 99 = some false := by kernel_rfl
theorem und_99 : Tryd.prog.underlying 99 = some (.slice 3) := by kernel_rfl
theorem inf_3 : elemInfo Tryd.prog 3 = some (1, 8, 1) := by kernel_rfl
theorem siz_99 : sizeT Tryd.prog 99 = some 1 := by kernel_rfl
theorem fok_83 : fnOk Tryd.prog 83 = true := by kernel_rfl
theorem fok_93 : fnOk Tryd.prog 93 = true := by kernel_rfl
theorem fok_71 : fnOk Tryd.prog 71 = true := by kernel_rfl
theorem fld_50_1 : fieldOf Tryd.prog 50 1 = some (1, 1, false) := by kernel_rfl
theorem fok_79 : fnOk Tryd.prog 79 = true := by kernel_rfl
theorem fok_78 : fnOk Tryd.prog 78 = true := by kernel_rfl
theorem fok_63 : fnOk Tryd.prog 63 = true := by kernel_rfl
theorem fok_69 : fnOk Tryd.prog 69 = true := by kernel_rfl
theorem fok_80 : fnOk Tryd.prog 80 = true := by kernel_rfl
theorem agg_4 : aggT Tryd.prog 4 = some false := by kernel_rfl
theorem fok_81 : fnOk Tryd.prog 81 = true := by kernel_rfl
theorem fok_61 : fnOk Tryd.prog 61 = true := by kernel_rfl
theorem fok_62 : fnOk Tryd.prog 62 = true := by kernel_rfl
theorem fld_50_3 : fieldOf Tryd.prog 50 3 = some (3, 1, false) := by kernel_rfl
theorem fld_50_4 : fieldOf Tryd.prog 50 4 = some (4, 1, false) := by kernel_rfl
theorem fok_64 : fnOk Tryd.prog 64 = true := by kernel_rfl
theorem fok_65 : fnOk Tryd.prog 65 = true := by kernel_rfl
theorem fok_92 : fnOk Tryd.prog 92 = true := by kernel_rfl
theorem fok_99 : fnOk Tryd.prog 99 = true := by kernel_rfl
theorem fok_82 : fnOk Tryd.prog 82 = true := by kernel_rfl
theorem fok_66 : fnOk Tryd.prog 66 = true := by kernel_rfl
theorem fok_42 : fnOk Tryd.prog 42 = true := by kernel_rfl
theorem fok_11 : fnOk Tryd.prog 11 = true := by kernel_rfl
theorem fok_43 : fnOk Tryd.prog 43 = true := by kernel_rfl
theorem fok_44 : fnOk Tryd.prog 44 = true := by kernel_rfl
theorem fok_45 : fnOk Tryd.prog 45 = true := by kernel_rfl
theorem fok_46 : fnOk Tryd.prog 46 = true := by kernel_rfl
theorem fok_47 : fnOk Tryd.prog 47 = true := by kernel_rfl
theorem fok_23 : fnOk Tryd.prog 23 = true := by kernel_rfl
theorem agg_26 : aggT Tryd.prog 26 = some true := by kernel_rfl
theorem siz_26 : sizeT Tryd.prog 26 = some 2 := by kernel_rfl
theorem fok_25 : fnOk Tryd.prog 25 = true := by kernel_rfl
theorem fok_26 : fnOk Tryd.prog 26 = true := by kernel_rfl
theorem fok_27 : fnOk Tryd.prog 27 = true := by kernel_rfl
theorem fok_29 : fnOk Tryd.prog 29 = true := by kernel_rfl
theorem fok_28 : fnOk Tryd.prog 28 = true := by kernel_rfl
theorem fld_46_1 : fieldOf Tryd.prog 46 1 = some (1, 1, false) := by kernel_rfl
theorem fok_31 : fnOk Tryd.prog 31 = true := by kernel_rfl
theorem zer_26 : zeroT Tryd.prog 26 = some (.agg #[.int .i64 0, .int .u8 0]) := by kernel_rfl
theorem plc_26 : placesOf Tryd.prog 26 = some [(0, 1), (1, 1)] := by kernel_rfl
theorem fok_5 : fnOk Tryd.prog 5 = true := by kernel_rfl
theorem som_3 : (Tryd.prog.underlying 3).isSome = true := by kernel_rfl
theorem plc_34 : placesOf Tryd.prog 34 = some [(0, 1), (1, 1)] := by kernel_rfl
theorem und_29 : Tryd.prog.underlying 29 = some (.pointer 57) := by kernel_rfl
theorem fok_9 : fnOk Tryd.prog 9 = true := by kernel_rfl
theorem und_35 : Tryd.prog.underlying 35 = some (.pointer 61) := by kernel_rfl
theorem fok_10 : fnOk Tryd.prog 10 = true := by kernel_rfl
theorem und_37 : Tryd.prog.underlying 37 = some (.pointer 59) := by kernel_rfl
theorem und_39 : Tryd.prog.underlying 39 = some (.pointer 71) := by kernel_rfl
theorem fok_12 : fnOk Tryd.prog 12 = true := by kernel_rfl
theorem fok_14 : fnOk Tryd.prog 14 = true := by kernel_rfl
theorem fok_15 : fnOk Tryd.prog 15 = true := by kernel_rfl
theorem zer_46 : zeroT Tryd.prog 46 = some (.agg #[.int .u8 0, .bool false, .bool false, .int .i64 0]) := by kernel_rfl
theorem plc_46 : placesOf Tryd.prog 46 = some [(0, 1), (1, 1), (2, 1), (3, 1)] := by kernel_rfl
theorem fok_16 : fnOk Tryd.prog 16 = true := by kernel_rfl
theorem fok_17 : fnOk Tryd.prog 17 = true := by kernel_rfl
theorem eqg_26 : Tryd.prog.eqGuardType Tryd.prog.depth 26 = false := by kernel_rfl
theorem fok_6 : fnOk Tryd.prog 6 = true := by kernel_rfl
theorem fok_8 : fnOk Tryd.prog 8 = true := by kernel_rfl
theorem fok_4 : fnOk Tryd.prog 4 = true := by kernel_rfl
theorem und_23 : Tryd.prog.underlying 23 = some (.map 9 4) := by kernel_rfl
theorem zer_4 : zeroT Tryd.prog 4 = some (.bool false) := by kernel_rfl
theorem eqa_26 (x y : keyboard_Key) : eqT Tryd.prog 10000 26 (.agg [.int .i64 x.f_Kind, vB x.f_Byte].toArray) (.agg [.int .i64 y.f_Kind, vB y.f_Byte].toArray) = some (decide (x = y)) := by
  have h : eqT Tryd.prog 10000 26 (.agg [.int .i64 x.f_Kind, vB x.f_Byte].toArray) (.agg [.int .i64 y.f_Kind, vB y.f_Byte].toArray) = some ((x.f_Kind == y.f_Kind) && ((((x.f_Byte).toNat : Int) == ((y.f_Byte).toNat : Int)) && true)) := by kernel_rfl
  rw [h]
  congr 1
  rw [Bool.eq_iff_iff]
  simp only [Bool.and_eq_true, beq_iff_eq, decide_eq_true_eq, and_true, Int.ofNat_inj, UInt8.toNat_inj, keyboard_Key.mk.injEq, struct_ext_keyboard_Key]

-- greenscreen/keyboard.plain
def keyboard_plain_m (a0 : UInt8) : Option ((List UInt8)) := (if a0 = (125 : UInt8) then some ([69, 78, 84, 69, 82] : List UInt8) else (if a0 = (109 : UInt8) then some ([67, 76, 69, 65, 82] : List UInt8) else (if a0 = (108 : UInt8) then some ([80, 65, 49] : List UInt8) else (if a0 = (110 : UInt8) then some ([80, 65, 50] : List UInt8) else (if a0 = (107 : UInt8) then some ([80, 65, 51] : List UInt8) else some ([] : List UInt8))))))
theorem keyboard_plain_c (a0 : UInt8) : Con Tryd.prog 20 #[vB a0] [] (keyboard_plain_m a0) (fun (o : (List UInt8)) (x : Unit) => vS o) (fun (o : (List UInt8)) (x : Unit) => []) := by
  unfold keyboard_plain_m
  refine con (args := [vB a0]) Tryd.func20 rfl 14 rfl (.c .n) rfl fun c hD hrn => ?_
  refine cSeq (cRegion (lR (dAssign (.c (v' := vS ([] : List UInt8)) rfl)) (lNil (xCode (cSeq (cSeq (cRegion (lM .z1 ?_))))))))
  refine lKeep (.k (.k .n)) (lNil (xCode (cBlock (cSeq (cRegion (lR (dEqB (.t .z) (.c (v' := vB 125) rfl)) (lA .z (lKeep (.k (.d (.k (.k .n)))) ?_))))))))
  refine lNil (xCode (cCond (.t .z) (fun h1 => ?_) (fun h1 => ?_)))
  ·exact cSeq (cRegion (lRdK (dAssign (.c (v' := vS ([69, 78, 84, 69, 82] : List UInt8)) rfl)) (.k (.k (.d (Keep.refl _)))) rfl rfl (lKeep (.k .n) (lNil (xCode (cRet (rLeave hD (lvRet (rs := [.tmp 2]) rfl (.t .z .n) () rfl .nil))))))))
  ·refine cSeq (cRegion (lR (dEqB (.t .z1) (.c (v' := vB 109) rfl)) (lA .z (lKeep (.k (.d (.d (.k (.k .n))))) (lNil (xCode (cCond (.t .z) (fun h2 => ?_) (fun h2 => ?_))))))))
   ·exact cSeq (cRegion (lRdK (dAssign (.c (v' := vS ([67, 76, 69, 65, 82] : List UInt8)) rfl)) (.k (.k (.d (Keep.refl _)))) rfl rfl (lKeep (.k .n) (lNil (xCode (cRet (rLeave hD (lvRet (rs := [.tmp 2]) rfl (.t .z .n) () rfl .nil))))))))
   ·refine cSeq (cRegion (lR (dEqB (.t .z1) (.c (v' := vB 108) rfl)) (lA .z (lKeep (.k (.d (.d (.k (.k .n))))) (lNil (xCode (cCond (.t .z) (fun h3 => ?_) (fun h3 => ?_))))))))
    ·exact cSeq (cRegion (lRdK (dAssign (.c (v' := vS ([80, 65, 49] : List UInt8)) rfl)) (.k (.k (.d (Keep.refl _)))) rfl rfl (lKeep (.k .n) (lNil (xCode (cRet (rLeave hD (lvRet (rs := [.tmp 2]) rfl (.t .z .n) () rfl .nil))))))))
    ·refine cSeq (cRegion (lR (dEqB (.t .z1) (.c (v' := vB 110) rfl)) (lA .z (lKeep (.k (.d (.d (.k (.k .n))))) (lNil (xCode (cCond (.t .z) (fun h4 => ?_) (fun h4 => ?_))))))))
     ·exact cSeq (cRegion (lRdK (dAssign (.c (v' := vS ([80, 65, 50] : List UInt8)) rfl)) (.k (.k (.d (Keep.refl _)))) rfl rfl (lKeep (.k .n) (lNil (xCode (cRet (rLeave hD (lvRet (rs := [.tmp 2]) rfl (.t .z .n) () rfl .nil))))))))
     ·refine cSeq (cRegion (lR (dEqB (.t .z1) (.c (v' := vB 107) rfl)) (lA .z (lKeep (.k (.d (.d (.d (.k .n))))) (lNil (xCode (cCond (.t .z) (fun h5 => ?_) (fun h5 => ?_))))))))
      ·exact cSeq (cRegion (lRdK (dAssign (.c (v' := vS ([80, 65, 51] : List UInt8)) rfl)) (.k (.d (Keep.refl _))) rfl rfl (lKeep (.k .n) (lNil (xCode (cRet (rLeave hD (lvRet (rs := [.tmp 2]) rfl (.t .z .n) () rfl .nil))))))))
      ·refine cSkip (xBlock (xCode (cSeq (cRegion (lRdK (dAssign (.c (v' := vS ([] : List UInt8)) rfl)) (.k (.d (Keep.refl _))) rfl rfl (lKeep (.k .n) (lNil (xCode ?_))))))))
       exact cRet (rLeave hD (lvRet (rs := [.tmp 2]) rfl (.t .z .n) () rfl .nil))

-- greenscreen/keyboard.function
def keyboard_function_m (a0 : UInt8) : Option (Int) := ((if a0 ≥ (241 : UInt8) then some (decide (a0 ≤ (249 : UInt8))) else some false)).bind fun (s2 : Bool) => (if s2 = true then some ((a0 - (240 : UInt8)).toNat : Int) else ((if a0 ≥ (122 : UInt8) then some (decide (a0 ≤ (124 : UInt8))) else some false)).bind fun (s6 : Bool) => (if s6 = true then some (w64 (((a0 - (122 : UInt8)).toNat : Int) + 10)) else ((if a0 ≥ (193 : UInt8) then some (decide (a0 ≤ (201 : UInt8))) else some false)).bind fun (s10 : Bool) => (if s10 = true then some (w64 (((a0 - (192 : UInt8)).toNat : Int) + 12)) else ((if a0 ≥ (74 : UInt8) then some (decide (a0 ≤ (76 : UInt8))) else some false)).bind fun (s14 : Bool) => (if s14 = true then some (w64 (((a0 - (74 : UInt8)).toNat : Int) + 22)) else some 0))))
theorem keyboard_function_c (a0 : UInt8) : Con Tryd.prog 33 #[vB a0] [] (keyboard_function_m a0) (fun (o : Int) (x : Unit) => .int .i64 o) (fun (o : Int) (x : Unit) => []) := by
  unfold keyboard_function_m
  refine con (args := [vB a0]) Tryd.func33 rfl 48 rfl (.c .n) rfl fun c hD hrn => ?_
  refine cSeq (cRegion (lR (dAssign (.c rfl)) (lNil (xCode (cSeq (cRegion (lR (dAssign (.c rfl)) (lNil ?_))))))))
  refine xCode (cSeq (cBlock (cSeq (cJoin (S := Bool) (X := Unit) (fun (s : Bool) (x : Unit) => [(4, .bool s), (3, .int .i64 0), (2, .int .i64 0), (0, vB a0)]) (fun (s : Bool) (x : Unit) => []) ?_ (fun s2 x3 => ?_)))))
  ·refine cRegion (lM .z2 (lR (dGeB (.t .z) (.c (v' := vB 241) rfl)) (lM .z (lCase (fun h1 => ?_) (fun h1 => ?_)))))
   ·exact lG .z (decide_eq_true h1) (dMove (.t .z5)) (lG .z1 (decide_eq_true h1) (dLeB (.t .z) (.c (v' := vB 249) rfl)) (lR (dPickT (.t .z2) (decide_eq_true h1) (.t .z)) (lA .z (lKeep (.k (.d (.d (.d (.d (.d (.d (.k (.k (.k .n)))))))))) (lNil (xJoin (decide (a0 ≤ (249 : UInt8))) () (.c .z (.c .z1 (.c .z2 (.c .z3 .n)))) .nil))))))
   ·exact lPass rfl .z (nbT (decide_eq_false h1)) rfl (lPass rfl .z (nbT (decide_eq_false h1)) rfl (lR (dPickF (.t .z) (decide_eq_false h1) (.c rfl)) (lA .z (lKeep (.k (.d (.d (.d (.d (.k (.k (.k .n)))))))) (lNil (xJoin false () (.c .z (.c .z1 (.c .z2 (.c .z3 .n)))) .nil))))))
  ·refine xCode (cCondB (.t .z) (fun h4 => ?_) (fun h4 => ?_))
   ·refine cRegion (lM .z3 (lR (dSubB (.t .z) (.c (v' := vB 240) rfl)) (lR (dConvB som_5 und_3 rfl (.t .z)) (lAK .z (.k (.k (.k (.k (.d (Keep.refl _)))))) (lKeep (.k (.d (.d (.d (.d (.k .n)))))) (lNil (xBlock (xCode ?_))))))))
    refine cSeq (cRegion (lM .z (lAK .z (.k (.k (.d (Keep.refl _)))) (lKeep (.k .n) (lNil (xCode (cRet (rLeave hD ?_))))))))
    exact lvRet (rs := [.tmp 2]) rfl (.t .z .n) () rfl .nil
   ·refine cSeq (cJoin (S := Bool) (X := Unit) (fun (s : Bool) (x : Unit) => [(14, .bool s), (3, .int .i64 0), (2, .int .i64 0), (0, vB a0)]) (fun (s : Bool) (x : Unit) => []) ?_ (fun s6 x7 => ?_))
    ·refine cRegion (lM .z3 (lR (dGeB (.t .z) (.c (v' := vB 122) rfl)) (lM .z (lCase (fun h5 => ?_) (fun h5 => ?_)))))
     ·exact lG .z (decide_eq_true h5) (dMove (.t .z6)) (lG .z1 (decide_eq_true h5) (dLeB (.t .z) (.c (v' := vB 124) rfl)) (lR (dPickT (.t .z2) (decide_eq_true h5) (.t .z)) (lA .z (lKeep (.k (.d (.d (.d (.d (.d (.d (.d (.k (.k (.k .n))))))))))) (lNil (xJoin (decide (a0 ≤ (124 : UInt8))) () (.c .z (.c .z1 (.c .z2 (.c .z3 .n)))) .nil))))))
     ·exact lPass rfl .z (nbT (decide_eq_false h5)) rfl (lPass rfl .z (nbT (decide_eq_false h5)) rfl (lR (dPickF (.t .z) (decide_eq_false h5) (.c rfl)) (lA .z (lKeep (.k (.d (.d (.d (.d (.d (.k (.k (.k .n))))))))) (lNil (xJoin false () (.c .z (.c .z1 (.c .z2 (.c .z3 .n)))) .nil))))))
    ·refine xCode (cCondB (.t .z) (fun h8 => ?_) (fun h8 => ?_))
     ·refine cRegion (lM .z3 (lR (dSubB (.t .z) (.c (v' := vB 122) rfl)) (lR (dConvB som_5 und_3 rfl (.t .z)) (lR (dAddI (.t .z) (.c rfl)) (lAK .z (.k (.k (.k (.k (.k (.d (Keep.refl _))))))) (lKeep (.k (.d (.d (.d (.d (.d (.k .n))))))) (lNil (xBlock ?_))))))))
      refine xCode (cSeq (cRegion (lM .z (lAK .z (.k (.k (.d (Keep.refl _)))) (lKeep (.k .n) (lNil (xCode (cRet ?_))))))))
      exact rLeave hD (lvRet (rs := [.tmp 2]) rfl (.t .z .n) () rfl .nil)
     ·refine cSeq (cJoin (S := Bool) (X := Unit) (fun (s : Bool) (x : Unit) => [(25, .bool s), (3, .int .i64 0), (2, .int .i64 0), (0, vB a0)]) (fun (s : Bool) (x : Unit) => []) ?_ (fun s10 x11 => ?_))
      ·refine cRegion (lM .z3 (lR (dGeB (.t .z) (.c (v' := vB 193) rfl)) (lM .z (lCase (fun h9 => ?_) (fun h9 => ?_)))))
       ·exact lG .z (decide_eq_true h9) (dMove (.t .z6)) (lG .z1 (decide_eq_true h9) (dLeB (.t .z) (.c (v' := vB 201) rfl)) (lR (dPickT (.t .z2) (decide_eq_true h9) (.t .z)) (lA .z (lKeep (.k (.d (.d (.d (.d (.d (.d (.d (.k (.k (.k .n))))))))))) (lNil (xJoin (decide (a0 ≤ (201 : UInt8))) () (.c .z (.c .z1 (.c .z2 (.c .z3 .n)))) .nil))))))
       ·exact lPass rfl .z (nbT (decide_eq_false h9)) rfl (lPass rfl .z (nbT (decide_eq_false h9)) rfl (lR (dPickF (.t .z) (decide_eq_false h9) (.c rfl)) (lA .z (lKeep (.k (.d (.d (.d (.d (.d (.k (.k (.k .n))))))))) (lNil (xJoin false () (.c .z (.c .z1 (.c .z2 (.c .z3 .n)))) .nil))))))
      ·refine xCode (cCondB (.t .z) (fun h12 => ?_) (fun h12 => ?_))
       ·refine cRegion (lM .z3 (lR (dSubB (.t .z) (.c (v' := vB 192) rfl)) (lR (dConvB som_5 und_3 rfl (.t .z)) (lR (dAddI (.t .z) (.c rfl)) (lAK .z (.k (.k (.k (.k (.k (.d (Keep.refl _))))))) (lKeep (.k (.d (.d (.d (.d (.d (.k .n))))))) (lNil (xBlock ?_))))))))
        refine xCode (cSeq (cRegion (lM .z (lAK .z (.k (.k (.d (Keep.refl _)))) (lKeep (.k .n) (lNil (xCode (cRet ?_))))))))
        exact rLeave hD (lvRet (rs := [.tmp 2]) rfl (.t .z .n) () rfl .nil)
       ·refine cSeq (cJoin (S := Bool) (X := Unit) (fun (s : Bool) (x : Unit) => [(36, .bool s), (3, .int .i64 0), (2, .int .i64 0), (0, vB a0)]) (fun (s : Bool) (x : Unit) => []) ?_ (fun s14 x15 => ?_))
        ·refine cRegion (lM .z3 (lR (dGeB (.t .z) (.c (v' := vB 74) rfl)) (lM .z (lCase (fun h13 => ?_) (fun h13 => ?_)))))
         ·exact lG .z (decide_eq_true h13) (dMove (.t .z6)) (lG .z1 (decide_eq_true h13) (dLeB (.t .z) (.c (v' := vB 76) rfl)) (lR (dPickT (.t .z2) (decide_eq_true h13) (.t .z)) (lA .z (lKeep (.k (.d (.d (.d (.d (.d (.d (.d (.k (.k (.k .n))))))))))) (lNil (xJoin (decide (a0 ≤ (76 : UInt8))) () (.c .z (.c .z1 (.c .z2 (.c .z3 .n)))) .nil))))))
         ·exact lPass rfl .z (nbT (decide_eq_false h13)) rfl (lPass rfl .z (nbT (decide_eq_false h13)) rfl (lR (dPickF (.t .z) (decide_eq_false h13) (.c rfl)) (lA .z (lKeep (.k (.d (.d (.d (.d (.d (.k (.k (.k .n))))))))) (lNil (xJoin false () (.c .z (.c .z1 (.c .z2 (.c .z3 .n)))) .nil))))))
        ·refine xCode (cCondB (.t .z) (fun h16 => ?_) (fun h16 => ?_))
         ·refine cRegion (lM .z3 (lR (dSubB (.t .z) (.c (v' := vB 74) rfl)) (lR (dConvB som_5 und_3 rfl (.t .z)) (lR (dAddI (.t .z) (.c rfl)) (lAK .z (.k (.k (.k (.k (.k (.d (Keep.refl _))))))) (lKeep (.k (.d (.d (.d (.d (.d (.k .n))))))) (lNil (xBlock ?_))))))))
          refine xCode (cSeq (cRegion (lM .z (lAK .z (.k (.k (.d (Keep.refl _)))) (lKeep (.k .n) (lNil (xCode (cRet ?_))))))))
          exact rLeave hD (lvRet (rs := [.tmp 2]) rfl (.t .z .n) () rfl .nil)
         ·refine cSkip (xBlock (xCode (cSeq (cRegion (lM .z1 (lAK .z (.k (.k (.k (.d (Keep.refl _))))) (lKeep (.k .n) (lNil ?_))))))))
          exact xCode (cRet (rLeave hD (lvRet (rs := [.tmp 2]) rfl (.t .z .n) () rfl .nil)))

-- internal/strconv.small
def internal_strconv_small_m (a0 : Int) : Option ((List UInt8)) := (if a0 < 10 then (sub ([48, 49, 50, 51, 52, 53, 54, 55, 56, 57, 97, 98, 99, 100, 101, 102, 103, 104, 105, 106, 107, 108, 109, 110, 111, 112, 113, 114, 115, 116, 117, 118, 119, 120, 121, 122] : List UInt8) a0 (w64 (a0 + 1))).bind fun r2 => some r2 else (sub ([48, 48, 48, 49, 48, 50, 48, 51, 48, 52, 48, 53, 48, 54, 48, 55, 48, 56, 48, 57, 49, 48, 49, 49, 49, 50, 49, 51, 49, 52, 49, 53, 49, 54, 49, 55, 49, 56, 49, 57, 50, 48, 50, 49, 50, 50, 50, 51, 50, 52, 50, 53, 50, 54, 50, 55, 50, 56, 50, 57, 51, 48, 51, 49, 51, 50, 51, 51, 51, 52, 51, 53, 51, 54, 51, 55, 51, 56, 51, 57, 52, 48, 52, 49, 52, 50, 52, 51, 52, 52, 52, 53, 52, 54, 52, 55, 52, 56, 52, 57, 53, 48, 53, 49, 53, 50, 53, 51, 53, 52, 53, 53, 53, 54, 53, 55, 53, 56, 53, 57, 54, 48, 54, 49, 54, 50, 54, 51, 54, 52, 54, 53, 54, 54, 54, 55, 54, 56, 54, 57, 55, 48, 55, 49, 55, 50, 55, 51, 55, 52, 55, 53, 55, 54, 55, 55, 55, 56, 55, 57, 56, 48, 56, 49, 56, 50, 56, 51, 56, 52, 56, 53, 56, 54, 56, 55, 56, 56, 56, 57, 57, 48, 57, 49, 57, 50, 57, 51, 57, 52, 57, 53, 57, 54, 57, 55, 57, 56, 57, 57] : List UInt8) (w64 (a0 * 2)) (w64 ((w64 (a0 * 2)) + 2))).bind fun r4 => some r4)
theorem internal_strconv_small_c (a0 : Int) : Con Tryd.prog 85 #[.int .i64 a0] [] (internal_strconv_small_m a0) (fun (o : (List UInt8)) (x : Unit) => vS o) (fun (o : (List UInt8)) (x : Unit) => []) := by
  unfold internal_strconv_small_m
  refine con (args := [.int .i64 a0]) Tryd.func85 rfl 15 rfl (.c .n) rfl fun c hD hrn => ?_
  refine cSeq (cRegion (lR (dAssign (.c (v' := vS ([] : List UInt8)) rfl)) (lNil (xCode (cSeq (cSeq (cRegion (lM .z1 ?_))))))))
  refine lR (dLt (.t .z) (.c rfl)) (lKeep (.k (.d (.k (.k .n)))) (lNil (xCode (cCond (.t .z) (fun h1 => ?_) (fun h1 => ?_)))))
  ·refine cSeq (cRegion (lM .z2 (lM .z3 (lR (dAddI (.t .z) (.c rfl)) (lBind fun r2 h3 => ?_)))))
   exact lR (dSubStr und_9 (.c (v' := vS ([48, 49, 50, 51, 52, 53, 54, 55, 56, 57, 97, 98, 99, 100, 101, 102, 103, 104, 105, 106, 107, 108, 109, 110, 111, 112, 113, 114, 115, 116, 117, 118, 119, 120, 121, 122] : List UInt8)) rfl) ⟨_, (.t .z2)⟩ ⟨_, (.t .z)⟩ h3) (lAK .z (.k (.k (.k (.k (.k (.d (Keep.refl _))))))) (lKeep (.k (.d (.d (.d (.d (.d (.k .n))))))) (lNil (xCode (cRet (rLeave hD (lvRet (rs := [.tmp 2]) rfl (.t .z .n) () rfl .nil)))))))
  ·refine cSkip (xCode (cSeq (cRegion (lM .z2 (lR (dMulI (.t .z) (.c rfl)) (lM .z4 (lR (dMulI (.t .z) (.c rfl)) (lR (dAddI (.t .z) (.c rfl)) ?_))))))))
   refine lBind fun r4 h5 => ?_
   refine lR (dSubStr und_9 (.c (v' := vS ([48, 48, 48, 49, 48, 50, 48, 51, 48, 52, 48, 53, 48, 54, 48, 55, 48, 56, 48, 57, 49, 48, 49, 49, 49, 50, 49, 51, 49, 52, 49, 53, 49, 54, 49, 55, 49, 56, 49, 57, 50, 48, 50, 49, 50, 50, 50, 51, 50, 52, 50, 53, 50, 54, 50, 55, 50, 56, 50, 57, 51, 48, 51, 49, 51, 50, 51, 51, 51, 52, 51, 53, 51, 54, 51, 55, 51, 56, 51, 57, 52, 48, 52, 49, 52, 50, 52, 51, 52, 52, 52, 53, 52, 54, 52, 55, 52, 56, 52, 57, 53, 48, 53, 49, 53, 50, 53, 51, 53, 52, 53, 53, 53, 54, 53, 55, 53, 56, 53, 57, 54, 48, 54, 49, 54, 50, 54, 51, 54, 52, 54, 53, 54, 54, 54, 55, 54, 56, 54, 57, 55, 48, 55, 49, 55, 50, 55, 51, 55, 52, 55, 53, 55, 54, 55, 55, 55, 56, 55, 57, 56, 48, 56, 49, 56, 50, 56, 51, 56, 52, 56, 53, 56, 54, 56, 55, 56, 56, 56, 57, 57, 48, 57, 49, 57, 50, 57, 51, 57, 52, 57, 53, 57, 54, 57, 55, 57, 56, 57, 57] : List UInt8)) rfl) ⟨_, (.t .z3)⟩ ⟨_, (.t .z)⟩ h5) ?_
   exact lAK .z (.k (.k (.k (.k (.k (.k (.k (.d (Keep.refl _))))))))) (lKeep (.k .n) (lNil (xCode (cRet (rLeave hD (lvRet (rs := [.tmp 2]) rfl (.t .z .n) () rfl .nil))))))

-- internal/strconv.log10Pow2
def internal_strconv_log10Pow2_m (a0 : Int) : Option (Int) := some (Int.fdiv (w64 (a0 * 78913)) (2 ^ (min (Int.toNat 18) 64)))
theorem internal_strconv_log10Pow2_c (a0 : Int) : Con Tryd.prog 94 #[.int .i64 a0] [] (internal_strconv_log10Pow2_m a0) (fun (o : Int) (x : Unit) => .int .i64 o) (fun (o : Int) (x : Unit) => []) := by
  unfold internal_strconv_log10Pow2_m
  refine con (args := [.int .i64 a0]) Tryd.func94 rfl 6 rfl (.c .n) rfl fun c hD hrn => ?_
  refine cSeq (cRegion (lR (dAssign (.c rfl)) (lNil (xCode (cSeq (cRegion (lM .z1 (lR (dMulI (.t .z) (.c rfl)) ?_))))))))
  exact lR (dShr (.t .z) (.c rfl) (by decide)) (lAK .z (.k (.k (.k (.d (Keep.refl _))))) (lKeep (.k .n) (lNil (xCode (cRet (rLeave hD (lvRet (rs := [.tmp 2]) rfl (.t .z .n) () rfl .nil)))))))

-- math/bits.Len64
def math_bits_Len64_m (a0 : Int) : Option (Int) := ((if a0 ≥ 4294967296 then some (32, Int.fdiv a0 (2 ^ (min (Int.toNat 32) 64))) else some (0, a0))).bind fun (s2 : Int × Int) => ((if s2.2 ≥ 65536 then some (w64 (s2.1 + 16), Int.fdiv s2.2 (2 ^ (min (Int.toNat 16) 64))) else some (s2.1, s2.2))).bind fun (s5 : Int × Int) => ((if s5.2 ≥ 256 then some (w64 (s5.1 + 8), Int.fdiv s5.2 (2 ^ (min (Int.toNat 8) 64))) else some (s5.1, s5.2))).bind fun (s8 : Int × Int) => (ix ([0, 1, 2, 2, 3, 3, 3, 3, 4, 4, 4, 4, 4, 4, 4, 4, 5, 5, 5, 5, 5, 5, 5, 5, 5, 5, 5, 5, 5, 5, 5, 5, 6, 6, 6, 6, 6, 6, 6, 6, 6, 6, 6, 6, 6, 6, 6, 6, 6, 6, 6, 6, 6, 6, 6, 6, 6, 6, 6, 6, 6, 6, 6, 6, 7, 7, 7, 7, 7, 7, 7, 7, 7, 7, 7, 7, 7, 7, 7, 7, 7, 7, 7, 7, 7, 7, 7, 7, 7, 7, 7, 7, 7, 7, 7, 7, 7, 7, 7, 7, 7, 7, 7, 7, 7, 7, 7, 7, 7, 7, 7, 7, 7, 7, 7, 7, 7, 7, 7, 7, 7, 7, 7, 7, 7, 7, 7, 7, 8, 8, 8, 8, 8, 8, 8, 8, 8, 8, 8, 8, 8, 8, 8, 8, 8, 8, 8, 8, 8, 8, 8, 8, 8, 8, 8, 8, 8, 8, 8, 8, 8, 8, 8, 8, 8, 8, 8, 8, 8, 8, 8, 8, 8, 8, 8, 8, 8, 8, 8, 8, 8, 8, 8, 8, 8, 8, 8, 8, 8, 8, 8, 8, 8, 8, 8, 8, 8, 8, 8, 8, 8, 8, 8, 8, 8, 8, 8, 8, 8, 8, 8, 8, 8, 8, 8, 8, 8, 8, 8, 8, 8, 8, 8, 8, 8, 8, 8, 8, 8, 8, 8, 8, 8, 8, 8, 8, 8, 8, 8, 8, 8, 8, 8, 8, 8, 8, 8, 8, 8, 8, 8, 8, 8, 8, 8, 8] : List UInt8) ((toB s8.2).toNat : Int)).bind fun y10 => some (w64 (s8.1 + (y10.toNat : Int)))
theorem math_bits_Len64_c (a0 : Int) : Con Tryd.prog 95 #[.int .u64 a0] [] (math_bits_Len64_m a0) (fun (o : Int) (x : Unit) => .int .i64 o) (fun (o : Int) (x : Unit) => []) := by
  unfold math_bits_Len64_m
  refine con (args := [.int .u64 a0]) Tryd.func95 rfl 25 rfl (.c .n) rfl fun c hD hrn => ?_
  refine cSeq (cRegion (lR (dAssign (.c rfl)) (lNil (xCode (cSeq (cSeq (cRegion (lM .z1 ?_))))))))
  refine lR (dGe (.t .z) (.c rfl)) (lKeep (.k (.d (.k (.k .n)))) (lNil (xCode (cJoin (S := Int × Int) (X := Unit) (fun (s : Int × Int) (x : Unit) => [(2, .int .i64 s.1), (0, .int .u64 s.2)]) (fun (s : Int × Int) (x : Unit) => []) ?_ (fun s2 x3 => ?_)))))
  ·refine cCond (.t .z) (fun h1 => ?_) (fun h1 => ?_)
   ·refine cSeq (cRegion (lM .z2 (lR (dShr (.t .z) (.c rfl) (by decide)) (lAK .z (.k (.k (.k (.k (.d (Keep.refl _)))))) (lKeep (.k (.d (.d (.d (.k .n))))) (lNil (xCode (cRegion ?_))))))))
    exact lRdK (dAssign (.c rfl)) (.k (.d (Keep.refl _))) rfl rfl (lNil (xJoin (32, Int.fdiv a0 (2 ^ (min (Int.toNat 32) 64))) () (.c .z (.c .z1 .n)) .nil))
   ·exact cSkip (xJoin (0, a0) () (.c .z1 (.c .z2 .n)) .nil)
  ·refine xCode (cSeq (cSeq (cRegion (lM .z1 (lR (dGe (.t .z) (.c rfl)) (lKeep (.k (.d (.k (.k .n)))) (lNil (xCode ?_))))))))
   refine cJoin (S := Int × Int) (X := Unit) (fun (s : Int × Int) (x : Unit) => [(2, .int .i64 s.1), (0, .int .u64 s.2)]) (fun (s : Int × Int) (x : Unit) => []) ?_ (fun s5 x6 => ?_)
   ·refine cCond (.t .z) (fun h4 => ?_) (fun h4 => ?_)
    ·refine cSeq (cRegion (lM .z2 (lR (dShr (.t .z) (.c rfl) (by decide)) (lAK .z (.k (.k (.k (.k (.d (Keep.refl _)))))) (lKeep (.k (.d (.d (.d (.k .n))))) (lNil (xCode (cRegion ?_))))))))
     exact lM .z1 (lR (dAddI (.t .z) (.c rfl)) (lAK .z (.k (.k (.k (.d (Keep.refl _))))) (lKeep (.k (.d (.d (.k .n)))) (lNil (xJoin (w64 (s2.1 + 16), Int.fdiv s2.2 (2 ^ (min (Int.toNat 16) 64))) () (.c .z (.c .z1 .n)) .nil)))))
    ·exact cSkip (xJoin (s2.1, s2.2) () (.c .z1 (.c .z2 .n)) .nil)
   ·refine xCode (cSeq (cSeq (cRegion (lM .z1 (lR (dGe (.t .z) (.c rfl)) (lKeep (.k (.d (.k (.k .n)))) (lNil (xCode ?_))))))))
    refine cJoin (S := Int × Int) (X := Unit) (fun (s : Int × Int) (x : Unit) => [(2, .int .i64 s.1), (0, .int .u64 s.2)]) (fun (s : Int × Int) (x : Unit) => []) ?_ (fun s8 x9 => ?_)
    ·refine cCond (.t .z) (fun h7 => ?_) (fun h7 => ?_)
     ·refine cSeq (cRegion (lM .z2 (lR (dShr (.t .z) (.c rfl) (by decide)) (lAK .z (.k (.k (.k (.k (.d (Keep.refl _)))))) (lKeep (.k (.d (.d (.d (.k .n))))) (lNil (xCode (cRegion ?_))))))))
      exact lM .z1 (lR (dAddI (.t .z) (.c rfl)) (lAK .z (.k (.k (.k (.d (Keep.refl _))))) (lKeep (.k (.d (.d (.k .n)))) (lNil (xJoin (w64 (s5.1 + 8), Int.fdiv s5.2 (2 ^ (min (Int.toNat 8) 64))) () (.c .z (.c .z1 .n)) .nil)))))
     ·exact cSkip (xJoin (s5.1, s5.2) () (.c .z1 (.c .z2 .n)) .nil)
    ·refine xCode (cSeq (cRegion (lM .z (lM .z2 (lR (dConvToB som_112 und_5 (.t .z)) (lIx fun y10 h11 h12 => ?_))))))
     refine lR (dIxStr und_9 (.c (v' := vS ([0, 1, 2, 2, 3, 3, 3, 3, 4, 4, 4, 4, 4, 4, 4, 4, 5, 5, 5, 5, 5, 5, 5, 5, 5, 5, 5, 5, 5, 5, 5, 5, 6, 6, 6, 6, 6, 6, 6, 6, 6, 6, 6, 6, 6, 6, 6, 6, 6, 6, 6, 6, 6, 6, 6, 6, 6, 6, 6, 6, 6, 6, 6, 6, 7, 7, 7, 7, 7, 7, 7, 7, 7, 7, 7, 7, 7, 7, 7, 7, 7, 7, 7, 7, 7, 7, 7, 7, 7, 7, 7, 7, 7, 7, 7, 7, 7, 7, 7, 7, 7, 7, 7, 7, 7, 7, 7, 7, 7, 7, 7, 7, 7, 7, 7, 7, 7, 7, 7, 7, 7, 7, 7, 7, 7, 7, 7, 7, 8, 8, 8, 8, 8, 8, 8, 8, 8, 8, 8, 8, 8, 8, 8, 8, 8, 8, 8, 8, 8, 8, 8, 8, 8, 8, 8, 8, 8, 8, 8, 8, 8, 8, 8, 8, 8, 8, 8, 8, 8, 8, 8, 8, 8, 8, 8, 8, 8, 8, 8, 8, 8, 8, 8, 8, 8, 8, 8, 8, 8, 8, 8, 8, 8, 8, 8, 8, 8, 8, 8, 8, 8, 8, 8, 8, 8, 8, 8, 8, 8, 8, 8, 8, 8, 8, 8, 8, 8, 8, 8, 8, 8, 8, 8, 8, 8, 8, 8, 8, 8, 8, 8, 8, 8, 8, 8, 8, 8, 8, 8, 8, 8, 8, 8, 8, 8, 8, 8, 8, 8, 8, 8, 8, 8, 8, 8, 8] : List UInt8)) rfl) (.t .z) h11 h12) ?_
     exact lR (dConvB som_5 und_3 rfl (.t .z)) (lR (dAddI (.t .z4) (.t .z)) (lAK .z (.k (.k (.k (.k (.k (.k (.d (Keep.refl _)))))))) (lKeep (.k .n) (lNil (xCode (cRet (rLeave hD (lvRet (rs := [.tmp 2]) rfl (.t .z .n) () rfl .nil))))))))

-- internal/strconv.bool2[int]
def internal_strconv_bool2_int_m (a0 : Bool) : Option (Int) := (if a0 = true then some 1 else some 0)
theorem internal_strconv_bool2_int_c (a0 : Bool) : Con Tryd.prog 96 #[.bool a0] [] (internal_strconv_bool2_int_m a0) (fun (o : Int) (x : Unit) => .int .i64 o) (fun (o : Int) (x : Unit) => []) := by
  unfold internal_strconv_bool2_int_m
  refine con (args := [.bool a0]) Tryd.func96 rfl 4 rfl (.c .n) rfl fun c hD hrn => ?_
  refine cSeq (cRegion (lR (dAssign (.c rfl)) (lNil (xCode (cSeq (cSeq (cRegion (lM .z1 ?_))))))))
  refine lKeep (.k (.k .n)) (lNil (xCode (cCondB (.t .z) (fun h1 => ?_) (fun h1 => ?_))))
  ·exact cSeq (cRegion (lRdK (dAssign (.c rfl)) (.k (.d (Keep.refl _))) rfl rfl (lKeep (.k .n) (lNil (xCode (cRet (rLeave hD (lvRet (rs := [.tmp 2]) rfl (.t .z .n) () rfl .nil))))))))
  ·refine cSkip (xCode (cSeq (cRegion (lRdK (dAssign (.c rfl)) (.k (.d (Keep.refl _))) rfl rfl (lKeep (.k .n) (lNil (xCode (cRet ?_))))))))
   exact rLeave hD (lvRet (rs := [.tmp 2]) rfl (.t .z .n) () rfl .nil)

-- internal/strconv.isPowerOfTwo
def internal_strconv_isPowerOfTwo_m (a0 : Int) : Option (Bool) := some (decide ((iand .i64 a0 (w64 (a0 - 1))) = 0))
theorem internal_strconv_isPowerOfTwo_c (a0 : Int) : Con Tryd.prog 97 #[.int .i64 a0] [] (internal_strconv_isPowerOfTwo_m a0) (fun (o : Bool) (x : Unit) => .bool o) (fun (o : Bool) (x : Unit) => []) := by
  unfold internal_strconv_isPowerOfTwo_m
  refine con (args := [.int .i64 a0]) Tryd.func97 rfl 8 rfl (.c .n) rfl fun c hD hrn => ?_
  refine cSeq (cRegion (lR (dAssign (.c rfl)) (lNil (xCode (cSeq (cRegion (lM .z1 (lM .z2 ?_))))))))
  refine lR (dSubI (.t .z) (.c rfl)) (lR (dAnd (.t .z2) (.t .z)) (lR (dEq (.t .z) (.c rfl)) (lAK .z (.k (.k (.k (.k (.k (.d (Keep.refl _))))))) (lKeep (.k .n) (lNil (xCode (cRet (rLeave hD ?_))))))))
  exact lvRet (rs := [.tmp 2]) rfl (.t .z .n) () rfl .nil

-- internal/strconv.FormatInt
def internal_strconv_FormatInt_m (a0 : Int) (a1 : Int) : Option ((List UInt8)) := (if a1 = 10 then ((if 0 ≤ a0 then some (decide (a0 < 100)) else some false)).bind fun (s3 : Bool) => (if s3 = true then (internal_strconv_small_m a0).bind fun o6 => some o6 else ((if a0 < 0 then some (IntKind.wrap .u64 (0 - IntKind.wrap .u64 a0)) else some (IntKind.wrap .u64 a0))).bind fun (s11 : Int) => none) else none)
theorem internal_strconv_FormatInt_c (a0 : Int) (a1 : Int) : Con Tryd.prog 72 #[.int .i64 a0, .int .i64 a1] [] (internal_strconv_FormatInt_m a0 a1) (fun (o : (List UInt8)) (x : Unit) => vS o) (fun (o : (List UInt8)) (x : Unit) => []) := by
  unfold internal_strconv_FormatInt_m
  refine con (args := [.int .i64 a0, .int .i64 a1]) Tryd.func72 rfl 54 rfl (.c (.c .n)) rfl fun c hD hrn => ?_
  refine cSeq (cRegion (lR (dAssign (.c (v' := vS ([] : List UInt8)) rfl)) (lNil (xCode (cSeq (cSeq (cRegion (lM .z2 ?_))))))))
  refine lR (dEq (.t .z) (.c rfl)) (lKeep (.k (.d (.k (.k (.k .n))))) (lNil (xCode (cCond (.t .z) (fun h1 => ?_) (fun h1 => ?_)))))
  ·refine cSeq (cSeq (cJoin (S := Bool) (X := Unit) (fun (s : Bool) (x : Unit) => [(17, .bool s), (4, vS ([] : List UInt8)), (0, .int .i64 a0), (1, .int .i64 a1)]) (fun (s : Bool) (x : Unit) => []) ?_ (fun s3 x4 => ?_)))
   ·refine cRegion (lM .z2 (lR (dLe (.c rfl) (.t .z)) (lM .z (lCase (fun h2 => ?_) (fun h2 => ?_)))))
    ·exact lG .z (decide_eq_true h2) (dMove (.t .z5)) (lG .z1 (decide_eq_true h2) (dLt (.t .z) (.c rfl)) (lR (dPickT (.t .z2) (decide_eq_true h2) (.t .z)) (lKeep (.k (.d (.d (.d (.d (.d (.d (.k (.k (.k .n)))))))))) (lNil (xJoin (decide (a0 < 100)) () (.c .z (.c .z1 (.c .z2 (.c .z3 .n)))) .nil)))))
    ·exact lPass rfl .z (nbT (decide_eq_false h2)) rfl (lPass rfl .z (nbT (decide_eq_false h2)) rfl (lR (dPickF (.t .z) (decide_eq_false h2) (.c rfl)) (lKeep (.k (.d (.d (.d (.d (.k (.k (.k .n)))))))) (lNil (xJoin false () (.c .z (.c .z1 (.c .z2 (.c .z3 .n)))) .nil)))))
   ·refine xCode (cCondB (.t .z) (fun h5 => ?_) (fun h5 => ?_))
    ·refine cSeq (cRegion (lM .z2 (lCall fok_85 (.c (.t .z) .n) (internal_strconv_small_c a0) .n rfl rfl fun o6 x7 h8 => ?_)))
     exact lAK .z (.k (.k (.k (.d (Keep.refl _))))) (lKeep (.k (.d (.d (.d (.k (.k .n)))))) (lNil (xCode (cRet (rLeave hD (lvRet (rs := [.tmp 4]) rfl (.t .z .n) () rfl .nil))))))
    ·refine cSkip (xCode (cSeq (cRegion (lCh (cAlloc (cs := [vB 0, vB 0, vB 0, vB 0, vB 0, vB 0, vB 0, vB 0, vB 0, vB 0, vB 0, vB 0, vB 0, vB 0, vB 0, vB 0, vB 0, vB 0, vB 0, vB 0, vB 0, vB 0, vB 0, vB 0]) zer_111 rfl) rfl rfl fun b9 => ?_))))
     refine lKeep (.k (.d (.k (.k (.k .n))))) (lNil (xCode (cSeq (cRegion (lM .z2 (lR (dConv som_2 und_112 (.t .z)) (lA .z (lKeep (.k (.d (.d (.k (.k (.k (.k .n))))))) ?_))))))))
     refine lNil (xCode (cSeq (cSeq (cRegion (lM .z3 (lR (dLt (.t .z) (.c rfl)) (lKeep (.k (.d (.k (.k (.k (.k (.k .n))))))) (lNil ?_))))))))
     refine xCode (cJoin (S := Int) (X := Unit) (fun (s : Int) (x : Unit) => [(6, .int .u64 s), (5, .pointer (some ⟨b9, 0, none⟩)), (4, vS ([] : List UInt8)), (0, .int .i64 a0), (1, .int .i64 a1)]) (fun (s : Int) (x : Unit) => [.blk b9 [vB 0, vB 0, vB 0, vB 0, vB 0, vB 0, vB 0, vB 0, vB 0, vB 0, vB 0, vB 0, vB 0, vB 0, vB 0, vB 0, vB 0, vB 0, vB 0, vB 0, vB 0, vB 0, vB 0, vB 0] 111]) ?_ (fun s11 x12 => ?_))
     ·refine cCond (.t .z) (fun h10 => ?_) (fun h10 => ?_)
      ·exact cRegion (lM .z1 (lR (dNeg (.t .z)) (lAK .z (.k (.k (.k (.d (Keep.refl _))))) (lKeep (.k (.d (.d (.d (.k (.k (.k (.k .n)))))))) (lNil (xJoin (IntKind.wrap .u64 (0 - IntKind.wrap .u64 a0)) () (.c .z (.c .z1 (.c .z2 (.c .z3 (.c .z4 .n))))) (.c .z .nil)))))))
      ·exact cSkip (xJoin (IntKind.wrap .u64 a0) () (.c .z1 (.c .z2 (.c .z3 (.c .z4 (.c .z5 .n))))) (.c .z .nil))
     ·exact xCode (cSeq (cStuck))
  ·exact cSkip (xCode (cSeq (cStuck)))

-- internal/strconv.Itoa
def internal_strconv_Itoa_m (a0 : Int) : Option ((List UInt8)) := (internal_strconv_FormatInt_m a0 10).bind fun o1 => some o1
theorem internal_strconv_Itoa_c (a0 : Int) : Con Tryd.prog 48 #[.int .i64 a0] [] (internal_strconv_Itoa_m a0) (fun (o : (List UInt8)) (x : Unit) => vS o) (fun (o : (List UInt8)) (x : Unit) => []) := by
  unfold internal_strconv_Itoa_m
  refine con (args := [.int .i64 a0]) Tryd.func48 rfl 5 rfl (.c .n) rfl fun c hD hrn => ?_
  refine cSeq (cRegion (lR (dAssign (.c (v' := vS ([] : List UInt8)) rfl)) (lNil (xCode (cSeq (cRegion (lM .z1 (lCall fok_72 (.c (.t .z) (.c (.c rfl) .n)) (internal_strconv_FormatInt_c a0 10) .n rfl rfl fun o1 x2 h3 => ?_))))))))
  exact lAK .z (.k (.k (.d (Keep.refl _)))) (lKeep (.k .n) (lNil (xCode (cRet (rLeave hD (lvRet (rs := [.tmp 2]) rfl (.t .z .n) () rfl .nil))))))

-- strconv.Itoa
def strconv_Itoa_m (a0 : Int) : Option ((List UInt8)) := (internal_strconv_Itoa_m a0).bind fun o1 => some o1
theorem strconv_Itoa_c (a0 : Int) : Con Tryd.prog 34 #[.int .i64 a0] [] (strconv_Itoa_m a0) (fun (o : (List UInt8)) (x : Unit) => vS o) (fun (o : (List UInt8)) (x : Unit) => []) := by
  unfold strconv_Itoa_m
  refine con (args := [.int .i64 a0]) Tryd.func34 rfl 5 rfl (.c .n) rfl fun c hD hrn => ?_
  refine cSeq (cRegion (lR (dAssign (.c (v' := vS ([] : List UInt8)) rfl)) (lNil (xCode (cSeq (cRegion (lM .z1 (lCall fok_48 (.c (.t .z) .n) (internal_strconv_Itoa_c a0) .n rfl rfl fun o1 x2 h3 => ?_))))))))
  exact lAK .z (.k (.k (.d (Keep.refl _)))) (lKeep (.k .n) (lNil (xCode (cRet (rLeave hD (lvRet (rs := [.tmp 2]) rfl (.t .z .n) () rfl .nil))))))

-- greenscreen/keyboard.attention
def keyboard_attention_m (a0 : UInt8) : Option ((List UInt8)) := (keyboard_function_m a0).bind fun o1 => (if o1 > 0 then (strconv_Itoa_m o1).bind fun o5 => (cat ([80, 70] : List UInt8) o5).bind fun r8 => some r8 else (keyboard_plain_m a0).bind fun o10 => some o10)
theorem keyboard_attention_c (a0 : UInt8) : Con Tryd.prog 19 #[vB a0] [] (keyboard_attention_m a0) (fun (o : (List UInt8)) (x : Unit) => vS o) (fun (o : (List UInt8)) (x : Unit) => []) := by
  unfold keyboard_attention_m
  refine con (args := [vB a0]) Tryd.func19 rfl 13 rfl (.c .n) rfl fun c hD hrn => ?_
  refine cSeq (cRegion (lR (dAssign (.c (v' := vS ([] : List UInt8)) rfl)) (lNil (xCode (cSeq (cSeq (cRegion (lM .z1 ?_))))))))
  refine lCall fok_33 (.c (.t .z) .n) (keyboard_function_c a0) .n rfl rfl fun o1 x2 h3 => ?_
  refine lA .z (lKeep (.k (.d (.d (.k (.k .n))))) (lNil (xCode (cSeq (cRegion (lM .z (lR (dGt (.t .z) (.c rfl)) (lKeep (.k (.d (.k (.k (.k .n))))) ?_))))))))
  refine lNil (xCode (cCond (.t .z) (fun h4 => ?_) (fun h4 => ?_)))
  ·refine cSeq (cRegion (lM .z1 (lCall fok_34 (.c (.t .z) .n) (strconv_Itoa_c o1) .n rfl rfl fun o5 x6 h7 => ?_)))
   refine lBind fun r8 h9 => ?_
   exact lR (dCat (.c (v' := vS ([80, 70] : List UInt8)) rfl) (.t .z) h9) (lAK .z (.k (.k (.k (.k (.k (.d (Keep.refl _))))))) (lKeep (.k (.d (.d (.d (.d (.d (.k .n))))))) (lNil (xCode (cRet (rLeave hD (lvRet (rs := [.tmp 2]) rfl (.t .z .n) () rfl .nil)))))))
  ·refine cSkip (xCode (cSeq (cRegion (lM .z3 (lCall fok_20 (.c (.t .z) .n) (keyboard_plain_c a0) .n rfl rfl fun o10 x11 h12 => ?_)))))
   exact lAK .z (.k (.k (.k (.k (.d (Keep.refl _)))))) (lKeep (.k .n) (lNil (xCode (cRet (rLeave hD (lvRet (rs := [.tmp 2]) rfl (.t .z .n) () rfl .nil))))))

-- greenscreen/keyboard.Name
def keyboard_Name_m (a0 : keyboard_Key) : Option ((List UInt8)) := (if a0.f_Kind = 17 then (keyboard_attention_m a0.f_Byte).bind fun o3 => some o3 else ((if a0.f_Kind ≤ 1 then some true else some (decide (a0.f_Kind > 17)))).bind fun (s7 : Bool) => (if s7 = true then some ([] : List UInt8) else (ix glob_0 a0.f_Kind).bind fun y10 => some y10))
theorem keyboard_Name_c (a0 : keyboard_Key) : Con Tryd.prog 5 #[.agg #[.int .i64 a0.f_Kind, vB a0.f_Byte]] [.ro (kVar 0 53) [] (glob_0.map vS)] (keyboard_Name_m a0) (fun (o : (List UInt8)) (x : Unit) => vS o) (fun (o : (List UInt8)) (x : Unit) => []) := by
  unfold keyboard_Name_m
  refine con (args := [.agg #[.int .i64 a0.f_Kind, vB a0.f_Byte]]) Tryd.func5 rfl 23 rfl (.c .n) rfl fun c hD hrn => ?_
  refine cSeq (cRegion (lCh (cBox (cs := [.int .i64 a0.f_Kind, vB a0.f_Byte]) (.t .z) rfl) rfl rfl fun b1 => ?_))
  refine lR (dAssign (.c (v' := vS ([] : List UInt8)) rfl)) (lKeep (.k (.k .n)) (lNil (xCode (cSeq (cBlock (cSeq (cRegion (lR (dFld fld_26_0 (by decide) (.t .z1) rfl) ?_))))))))
  refine lR (dLoad .z agg_3 (.t .z) rfl) (lR (dEq (.t .z) (.c rfl)) (lA .z (lKeep (.k (.d (.d (.d (.k (.k .n)))))) (lNil (xCode (cCond (.t .z) (fun h2 => ?_) (fun h2 => ?_)))))))
  ·refine cSeq (cRegion (lR (dFld fld_26_1 (by decide) (.t .z2) rfl) (lR (dLoad .z agg_5 (.t .z) rfl) (lCall fok_19 (.c (.t .z) .n) (keyboard_attention_c _) .n rfl rfl fun o3 x4 h5 => ?_))))
   exact lAK .z (.k (.k (.k (.k (.d (Keep.refl _)))))) (lKeep (.k (.d (.d (.d (.d (.k .n)))))) (lNil (xCode (cRet (rLeave hD (lvRet (rs := [.tmp 2]) rfl (.t .z .n) () rfl .nil))))))
  ·refine cSeq (cJoin (S := Bool) (X := Unit) (fun (s : Bool) (x : Unit) => [(10, .bool s), (2, vS ([] : List UInt8)), (1, .pointer (some ⟨b1, 0, none⟩))]) (fun (s : Bool) (x : Unit) => [.blk b1 [.int .i64 a0.f_Kind, vB a0.f_Byte] 26, .ro (kVar 0 53) [] (glob_0.map vS)]) ?_ (fun s7 x8 => ?_))
   ·refine cRegion (lR (dFld fld_26_0 (by decide) (.t .z2) rfl) (lR (dLoad .z agg_3 (.t .z) rfl) (lR (dLe (.t .z) (.c rfl)) (lM .z (lCase (fun h6 => ?_) (fun h6 => ?_))))))
    ·exact lPass rfl .z (nbF (decide_eq_true h6)) rfl (lPass rfl .z (nbF (decide_eq_true h6)) rfl (lPass rfl .z (nbF (decide_eq_true h6)) rfl (lR (dPickT (.t .z) (decide_eq_true h6) (.c rfl)) (lA .z (lKeep (.k (.d (.d (.d (.d (.d (.d (.k (.k .n))))))))) (lNil (xJoin true () (.c .z (.c .z1 (.c .z2 .n))) (.c .z (.c .z .nil)))))))))
    ·exact lG .z (decide_eq_false h6) (dFld fld_26_0 (by decide) (.t .z6) rfl) (lG .z1 (decide_eq_false h6) (dLoad .z agg_3 (.t .z) rfl) (lG .z2 (decide_eq_false h6) (dGt (.t .z) (.c rfl)) (lR (dPickF (.t .z3) (decide_eq_false h6) (.t .z)) (lA .z (lKeep (.k (.d (.d (.d (.d (.d (.d (.d (.d (.d (.k (.k .n)))))))))))) (lNil (xJoin (decide (a0.f_Kind > 17)) () (.c .z (.c .z1 (.c .z2 .n))) (.c .z (.c .z .nil)))))))))
   ·refine xCode (cCondB (.t .z) (fun h9 => ?_) (fun h9 => ?_))
    ·exact cSeq (cRegion (lRdK (dAssign (.c (v' := vS ([] : List UInt8)) rfl)) (.k (.d (Keep.refl _))) rfl rfl (lKeep (.k (.d (.k .n))) (lNil (xCode (cRet (rLeave hD (lvRet (rs := [.tmp 2]) rfl (.t .z .n) () rfl .nil))))))))
    ·refine cSkip (xBlock (xCode (cSeq (cRegion (lR (dFld fld_26_0 (by decide) (.t .z2) rfl) (lR (dLoad .z agg_3 (.t .z) rfl) (lIx fun y10 h11 h12 => ?_)))))))
     exact lR (dIxG (xs := glob_0) und_53 siz_9 (by decide) .g (.t .z) h11 h12) (lR (dLoadG (f := vS) .z1 agg_9 (.t .z) h12) (lAK .z (.k (.k (.k (.k (.k (.d (Keep.refl _))))))) (lKeep (.k .n) (lNil (xCode (cRet (rLeave hD (lvRet (rs := [.tmp 2]) rfl (.t .z .n) () rfl .nil))))))))

-- greenscreen/keyboard.Short
def keyboard_Short_m (a0 : UInt8) : Option (Bool) := (keyboard_plain_m a0).bind fun o1 => (if o1 ≠ ([] : List UInt8) then some (decide (a0 ≠ (125 : UInt8))) else some false)
theorem keyboard_Short_c (a0 : UInt8) : Con Tryd.prog 6 #[vB a0] [] (keyboard_Short_m a0) (fun (o : Bool) (x : Unit) => .bool o) (fun (o : Bool) (x : Unit) => []) := by
  unfold keyboard_Short_m
  refine con (args := [vB a0]) Tryd.func6 rfl 10 rfl (.c .n) rfl fun c hD hrn => ?_
  refine cSeq (cRegion (lR (dAssign (.c rfl)) (lNil (xCode (cSeq (cRegion (lM .z1 (lCall fok_20 (.c (.t .z) .n) (keyboard_plain_c a0) .n rfl rfl fun o1 x2 h3 => ?_))))))))
  refine lR (dNeS (.t .z) (.c (v' := vS ([] : List UInt8)) rfl)) (lM .z (lCase (fun h4 => ?_) (fun h4 => ?_)))
  ·refine lG .z (decide_eq_true h4) (dMove (.t .z5)) (lG .z1 (decide_eq_true h4) (dNeB (.t .z) (.c (v' := vB 125) rfl)) (lR (dPickT (.t .z2) (decide_eq_true h4) (.t .z)) (lAK .z (.k (.k (.k (.k (.k (.k (.k (.d (Keep.refl _))))))))) (lKeep (.k .n) (lNil (xCode (cRet (rLeave hD ?_))))))))
   exact lvRet (rs := [.tmp 2]) rfl (.t .z .n) () rfl .nil
  ·refine lPass rfl .z (nbT (decide_eq_false h4)) rfl (lPass rfl .z (nbT (decide_eq_false h4)) rfl (lR (dPickF (.t .z) (decide_eq_false h4) (.c rfl)) (lAK .z (.k (.k (.k (.k (.k (.d (Keep.refl _))))))) (lKeep (.k .n) (lNil (xCode (cRet (rLeave hD ?_))))))))
   exact lvRet (rs := [.tmp 2]) rfl (.t .z .n) () rfl .nil

-- greenscreen/keyboard.Attention
def keyboard_Attention_m (a0 : UInt8) : Option (Bool) := (keyboard_attention_m a0).bind fun o1 => some (decide (o1 ≠ ([] : List UInt8)))
theorem keyboard_Attention_c (a0 : UInt8) : Con Tryd.prog 7 #[vB a0] [] (keyboard_Attention_m a0) (fun (o : Bool) (x : Unit) => .bool o) (fun (o : Bool) (x : Unit) => []) := by
  unfold keyboard_Attention_m
  refine con (args := [vB a0]) Tryd.func7 rfl 6 rfl (.c .n) rfl fun c hD hrn => ?_
  refine cSeq (cRegion (lR (dAssign (.c rfl)) (lNil (xCode (cSeq (cRegion (lM .z1 (lCall fok_19 (.c (.t .z) .n) (keyboard_attention_c a0) .n rfl rfl fun o1 x2 h3 => ?_))))))))
  exact lR (dNeS (.t .z) (.c (v' := vS ([] : List UInt8)) rfl)) (lAK .z (.k (.k (.k (.d (Keep.refl _))))) (lKeep (.k .n) (lNil (xCode (cRet (rLeave hD (lvRet (rs := [.tmp 2]) rfl (.t .z .n) () rfl .nil)))))))

-- greenscreen/addr.Cells
def addr_Cells_m (a0 : api_Size) : Option (Int) := ((if a0.f_Rows < 1 then some true else (if a0.f_Rows > 43 then some true else (if a0.f_Cols < 1 then some true else (if a0.f_Cols > 132 then some true else some (decide ((w64 (a0.f_Rows * a0.f_Cols)) > 4096))))))).bind fun (s6 : Bool) => (if s6 = true then some 0 else some (w64 (a0.f_Rows * a0.f_Cols)))
theorem addr_Cells_c (a0 : api_Size) : Con Tryd.prog 21 #[.agg #[.int .i64 a0.f_Rows, .int .i64 a0.f_Cols]] [] (addr_Cells_m a0) (fun (o : Int) (x : Unit) => .int .i64 o) (fun (o : Int) (x : Unit) => []) := by
  unfold addr_Cells_m
  refine con (args := [.agg #[.int .i64 a0.f_Rows, .int .i64 a0.f_Cols]]) Tryd.func21 rfl 32 rfl (.c .n) rfl fun c hD hrn => ?_
  refine cSeq (cRegion (lCh (cBox (cs := [.int .i64 a0.f_Rows, .int .i64 a0.f_Cols]) (.t .z) rfl) rfl rfl fun b1 => ?_))
  refine lR (dAssign (.c rfl)) (lKeep (.k (.k .n)) (lNil (xCode (cSeq (cRegion (lR (dFld fld_34_0 (by decide) (.t .z1) rfl) (lR (dLoad .z agg_3 (.t .z) rfl) (lR (dFld fld_34_1 (by decide) (.t .z3) rfl) ?_))))))))
  refine lR (dLoad .z agg_3 (.t .z) rfl) (lR (dMulI (.t .z2) (.t .z)) (lA .z (lKeep (.k (.d (.d (.d (.d (.d (.k (.k .n)))))))) (lNil (xCode (cSeq (cSeq (cJoin (S := Bool) (X := Unit) (fun (s : Bool) (x : Unit) => [(30, .bool s), (3, .int .i64 (w64 (a0.f_Rows * a0.f_Cols))), (2, .int .i64 0)]) (fun (s : Bool) (x : Unit) => [.blk b1 [.int .i64 a0.f_Rows, .int .i64 a0.f_Cols] 34]) ?_ (fun s6 x7 => ?_)))))))))
  ·refine cRegion (lR (dFld fld_34_0 (by decide) (.t .z2) rfl) (lR (dLoad .z agg_3 (.t .z) rfl) (lR (dLt (.t .z) (.c rfl)) (lM .z (lCase (fun h2 => ?_) (fun h2 => ?_))))))
   ·refine lPass rfl .z (nbF (decide_eq_true h2)) rfl (lPass rfl .z (nbF (decide_eq_true h2)) rfl (lPass rfl .z (nbF (decide_eq_true h2)) rfl (lR (dPickT (.t .z) (decide_eq_true h2) (.c rfl)) (lM .z (lPass rfl .z (nbF rfl) rfl (lPass rfl .z (nbF rfl) rfl (lPass rfl .z (nbF rfl) rfl (lR (dPickT (.t .z) rfl (.c rfl)) ?_))))))))
    refine lM .z (lPass rfl .z (nbF rfl) rfl (lPass rfl .z (nbF rfl) rfl (lPass rfl .z (nbF rfl) rfl (lR (dPickT (.t .z) rfl (.c rfl)) (lM .z (lPass rfl .z (nbF rfl) rfl (lPass rfl .z (nbF rfl) rfl (lR (dPickT (.t .z) rfl (.c rfl)) ?_))))))))
    exact lKeep (.k (.d (.d (.d (.d (.d (.d (.d (.d (.d (.d (.k (.k .n))))))))))))) (lNil (xJoin true () (.c .z (.c .z1 (.c .z2 .n))) (.c .z .nil)))
   ·refine lG .z (decide_eq_false h2) (dFld fld_34_0 (by decide) (.t .z6) rfl) (lG .z1 (decide_eq_false h2) (dLoad .z agg_3 (.t .z) rfl) (lG .z2 (decide_eq_false h2) (dGt (.t .z) (.c rfl)) (lR (dPickF (.t .z3) (decide_eq_false h2) (.t .z)) (lM .z (lCase (fun h3 => ?_) (fun h3 => ?_))))))
    ·refine lPass rfl .z (nbF (decide_eq_true h3)) rfl (lPass rfl .z (nbF (decide_eq_true h3)) rfl (lPass rfl .z (nbF (decide_eq_true h3)) rfl (lR (dPickT (.t .z) (decide_eq_true h3) (.c rfl)) (lM .z (lPass rfl .z (nbF rfl) rfl (lPass rfl .z (nbF rfl) rfl (lPass rfl .z (nbF rfl) rfl (lR (dPickT (.t .z) rfl (.c rfl)) ?_))))))))
     exact lM .z (lPass rfl .z (nbF rfl) rfl (lPass rfl .z (nbF rfl) rfl (lR (dPickT (.t .z) rfl (.c rfl)) (lKeep (.k (.d (.d (.d (.d (.d (.d (.d (.d (.d (.d (.d (.d (.d (.k (.k .n)))))))))))))))) (lNil (xJoin true () (.c .z (.c .z1 (.c .z2 .n))) (.c .z .nil)))))))
    ·refine lG .z (decide_eq_false h3) (dFld fld_34_1 (by decide) (.t .z11) rfl) (lG .z1 (decide_eq_false h3) (dLoad .z agg_3 (.t .z) rfl) (lG .z2 (decide_eq_false h3) (dLt (.t .z) (.c rfl)) (lR (dPickF (.t .z3) (decide_eq_false h3) (.t .z)) (lM .z (lCase (fun h4 => ?_) (fun h4 => ?_))))))
     ·refine lPass rfl .z (nbF (decide_eq_true h4)) rfl (lPass rfl .z (nbF (decide_eq_true h4)) rfl (lPass rfl .z (nbF (decide_eq_true h4)) rfl (lR (dPickT (.t .z) (decide_eq_true h4) (.c rfl)) (lM .z (lPass rfl .z (nbF rfl) rfl (lPass rfl .z (nbF rfl) rfl (lR (dPickT (.t .z) rfl (.c rfl)) (lKeep (.k (.d (.d (.d (.d (.d (.d (.d (.d (.d (.d (.d (.d (.d (.d (.d (.d (.k (.k .n))))))))))))))))))) ?_))))))))
      exact lNil (xJoin true () (.c .z (.c .z1 (.c .z2 .n))) (.c .z .nil))
     ·refine lG .z (decide_eq_false h4) (dFld fld_34_1 (by decide) (.t .z16) rfl) (lG .z1 (decide_eq_false h4) (dLoad .z agg_3 (.t .z) rfl) (lG .z2 (decide_eq_false h4) (dGt (.t .z) (.c rfl)) (lR (dPickF (.t .z3) (decide_eq_false h4) (.t .z)) (lM .z (lCase (fun h5 => ?_) (fun h5 => ?_))))))
      ·exact lPass rfl .z (nbF (decide_eq_true h5)) rfl (lPass rfl .z (nbF (decide_eq_true h5)) rfl (lR (dPickT (.t .z) (decide_eq_true h5) (.c rfl)) (lKeep (.k (.d (.d (.d (.d (.d (.d (.d (.d (.d (.d (.d (.d (.d (.d (.d (.d (.d (.d (.d (.k (.k .n)))))))))))))))))))))) (lNil (xJoin true () (.c .z (.c .z1 (.c .z2 .n))) (.c .z .nil))))))
      ·exact lG .z (decide_eq_false h5) (dMove (.t .z19)) (lG .z1 (decide_eq_false h5) (dGt (.t .z) (.c rfl)) (lR (dPickF (.t .z2) (decide_eq_false h5) (.t .z)) (lKeep (.k (.d (.d (.d (.d (.d (.d (.d (.d (.d (.d (.d (.d (.d (.d (.d (.d (.d (.d (.d (.d (.d (.k (.k .n)))))))))))))))))))))))) (lNil (xJoin (decide ((w64 (a0.f_Rows * a0.f_Cols)) > 4096)) () (.c .z (.c .z1 (.c .z2 .n))) (.c .z .nil))))))
  ·refine xCode (cCondB (.t .z) (fun h8 => ?_) (fun h8 => ?_))
   ·exact cSeq (cRegion (lRdK (dAssign (.c rfl)) (.k (.k (.d (Keep.refl _)))) rfl rfl (lKeep (.k (.d (.k .n))) (lNil (xCode (cRet (rLeave hD (lvRet (rs := [.tmp 2]) rfl (.t .z .n) () rfl .nil))))))))
   ·refine cSkip (xCode (cSeq (cRegion (lM .z1 (lAK .z (.k (.k (.k (.d (Keep.refl _))))) (lKeep (.k .n) (lNil (xCode ?_))))))))
    exact cRet (rLeave hD (lvRet (rs := [.tmp 2]) rfl (.t .z .n) () rfl .nil))

-- greenscreen/plane.New
def plane_New_m (a0 : api_Size) : Option (Sum (plane_Plane) (Unit)) := (addr_Cells_m a0).bind fun o2 => (if o2 = 0 then some (Sum.inr ()) else (SX.mk o2 (⟨0, false, false, 0, 0⟩ : api_Cell)).bind fun zs6 => some (Sum.inl (⟨a0, zs6, 0⟩ : plane_Plane)))
theorem plane_New_c (a0 : api_Size) : Con Tryd.prog 49 #[.agg #[.int .i64 a0.f_Rows, .int .i64 a0.f_Cols]] [] (plane_New_m a0) (resS (fun (o : plane_Plane) (x : (Nat × Value) × (Unit)) => .tuple #[.pointer (some ⟨x.1.1, 0, none⟩), .int .i64 0]) (fun (e : Unit) (x : (Nat × Value) × (Unit)) => .tuple #[.pointer none, .int .i64 1])) (loE (fun (o : plane_Plane) (x : (Nat × Value) × (Unit)) => [.blk x.1.1 [.int .i64 o.f_size.f_Rows, .int .i64 o.f_size.f_Cols, x.1.2, .int .i64 o.f_cursor] 71, .own x.1.2 50 k_api_Cell o.f_cells]) (fun (e : Unit) (x : (Nat × Value) × (Unit)) => [])) := by
  unfold plane_New_m
  refine con (args := [.agg #[.int .i64 a0.f_Rows, .int .i64 a0.f_Cols]]) Tryd.func49 rfl 14 rfl (.c .n) rfl fun c hD hrn => ?_
  refine cSeq (cRegion (lCh (cBox (cs := [.int .i64 a0.f_Rows, .int .i64 a0.f_Cols]) (.t .z) rfl) rfl rfl fun b1 => ?_))
  refine lR (dAssign (.c rfl)) (lR (dAssign (.c rfl)) (lKeep (.k (.k (.k .n))) (lNil (xCode (cSeq (cRegion (lR (dLoadA (us := [.int .i64 a0.f_Rows, .int .i64 a0.f_Cols]) .z agg_34 siz_34 rfl (.t .z2) rfl) (lCall fok_21 (.c (.t .z) .n) (addr_Cells_c a0) .n rfl rfl fun o2 x3 h4 => ?_))))))))
  refine lA .z (lKeep (.k (.d (.d (.k (.k (.k .n)))))) (lNil (xCode (cSeq (cSeq (cRegion (lM .z (lR (dEq (.t .z) (.c rfl)) ?_))))))))
  refine lKeep (.k (.d (.k (.k (.k (.k .n)))))) (lNil (xCode (cCond (.t .z) (fun h5 => ?_) (fun h5 => ?_))))
  ·refine cSeq (cRegion (lRdK (dAssign (.c rfl)) (.k (.k (.k (.d (Keep.refl _))))) rfl rfl (lRdK (dAssign (.c rfl)) (.k (.k (.k (.d (Keep.refl _))))) rfl rfl (lKeep (.k (.k (.d (.k (.k .n))))) (lNil (xCode (cRet (rLeave hD ?_))))))))
   exact lvRet (rs := [.tmp 2, .tmp 3]) rfl (.t .z1 (.t .z .n)) ((0, undef), ()) rfl .nil
  ·refine cSkip (xCode (cSeq (cRegionM [2, 4] [(0, .quiet), (1, .early), (2, .only), (3, .quiet), (4, .only), (5, .quiet), (6, .quiet)] mixed (by kernel_rfl) (.c .z .nil) (.c .n) (mRd rfl rfl (fun _ _ _ => dLoadA (us := [.int .i64 a0.f_Rows, .int .i64 a0.f_Cols]) .z agg_34 siz_34 rfl (.t .z4) rfl) rfl rfl ?_))))
   refine mRd rfl rfl (fun _ _ _ => dMove (.t .z2)) rfl rfl ?_
   refine mBind fun zs6 h7 => ?_
   refine mCh rfl rfl (cMake (k := k_api_Cell) (zx := (⟨0, false, false, 0, 0⟩ : api_Cell)) und_69 inf_50 rfl (by decide) zer_50 (fun _ => rfl) (.t .z) (.t .z) h7) (fun b8 => (.c .z1 (.c .z .nil))) (fun _ => (.c .n)) rfl rfl fun b8 => ?_
   refine mRd rfl rfl (fun _ _ _ => dBuild (cs := [.int .i64 a0.f_Rows, .int .i64 a0.f_Cols, .slice (some ⟨b8, 0, none⟩) (Int.toNat o2) (Int.toNat o2), .int .i64 0]) zer_71 rfl plc_71 (.c (.t .z2) (.c (.t .z) .n)) rfl) rfl rfl ?_
   refine mCh rfl rfl (cBox (cs := [.int .i64 a0.f_Rows, .int .i64 a0.f_Cols, .slice (some ⟨b8, 0, none⟩) (Int.toNat o2) (Int.toNat o2), .int .i64 0]) (.t .z) rfl) (fun b9 => (.c .z1 (.c .z (.c .z .nil)))) (fun _ => (.c .n)) rfl rfl fun b9 => ?_
   refine mRdK rfl rfl (fun _ _ _ => dAssign (.t .z)) (.k (.k (.k (.k (.k (.k (.k (.k (.d (Keep.refl _)))))))))) rfl rfl ?_
   refine mRdK rfl rfl (fun _ _ _ => dAssign (.c rfl)) (.k (.k (.k (.k (.k (.k (.k (.k (.d (Keep.refl _)))))))))) rfl rfl ?_
   exact mKeep (.k (.k .n)) (mNil (xCode (cRet (rLeave hD (lvRet (rs := [.tmp 2, .tmp 3]) rfl (.t .z1 (.t .z .n)) ((b9, .slice (some ⟨b8, 0, none⟩) (Int.toNat o2) (Int.toNat o2)), ()) rfl (.c .z1 (.c .z1 .nil)))))))

-- (*greenscreen/screen.Screen).renew
def screen_Screen_renew_m (a0 : screen_Screen) (a1 : Int) : Option (screen_Screen) := (if a1 = 0 then (plane_New_m a0.f_sizes_0).bind (onE (fun (o2 : plane_Plane) => some (⟨a0.f_sizes_0, a0.f_sizes_1, a1, o2⟩ : screen_Screen)) (fun (o5 : Unit) => none)) else (if a1 = 1 then (plane_New_m a0.f_sizes_1).bind (onE (fun (o9 : plane_Plane) => some (⟨a0.f_sizes_0, a0.f_sizes_1, a1, o9⟩ : screen_Screen)) (fun (o12 : Unit) => none)) else none))
theorem screen_Screen_renew_c (a0 : screen_Screen) (a1 : Int) (b0_0 : Nat) (b0_1 : Nat) (v0_2 : Value) : Con Tryd.prog 35 #[.pointer (some ⟨b0_0, 0, none⟩), .int .i64 a1] [.blk b0_0 [.int .i64 a0.f_sizes_0.f_Rows, .int .i64 a0.f_sizes_0.f_Cols, .int .i64 a0.f_sizes_1.f_Rows, .int .i64 a0.f_sizes_1.f_Cols, .int .i64 a0.f_which, .pointer (some ⟨b0_1, 0, none⟩)] 57, .blk b0_1 [.int .i64 a0.f_p.f_size.f_Rows, .int .i64 a0.f_p.f_size.f_Cols, v0_2, .int .i64 a0.f_p.f_cursor] 71, .own v0_2 50 k_api_Cell a0.f_p.f_cells] (screen_Screen_renew_m a0 a1) (fun (o : screen_Screen) (x : Nat × Value) => .tuple #[]) (fun (o : screen_Screen) (x : Nat × Value) => [.blk b0_0 [.int .i64 o.f_sizes_0.f_Rows, .int .i64 o.f_sizes_0.f_Cols, .int .i64 o.f_sizes_1.f_Rows, .int .i64 o.f_sizes_1.f_Cols, .int .i64 o.f_which, .pointer (some ⟨x.1, 0, none⟩)] 57, .blk x.1 [.int .i64 o.f_p.f_size.f_Rows, .int .i64 o.f_p.f_size.f_Cols, x.2, .int .i64 o.f_p.f_cursor] 71, .own x.2 50 k_api_Cell o.f_p.f_cells]) := by
  unfold screen_Screen_renew_m
  refine con (args := [.pointer (some ⟨b0_0, 0, none⟩), .int .i64 a1]) Tryd.func35 rfl 21 rfl (.c (.c .n)) rfl fun c hD hrn => ?_
  refine cSeq (cRegion (lM .z (lM .z2 (lR (dNil (.t .z1)) (lR (dFld fld_57_1 (by decide) (.t .z) rfl) (lChU (uStore .z siz_3 rfl .z4 (.t .z) (.t .z2)) (lKeep (.d (.d (.d (.d (.k (.k .n)))))) (lNil ?_))))))))
  refine xCode (cRegion (lM .z (lM .z1 (lM .z3 (lR (dNil (.t .z1)) (lR (dFld fld_57_0 (by decide) (.t .z) rfl) (lCase (fun h1 => ?_) (fun h1 => ?_))))))))
  ·refine lR (dIxArrV h1 und_55 siz_34 (.t .z) (.t .z2) (by decide) (by decide)) (lR (dLoadA (us := [.int .i64 a0.f_sizes_0.f_Rows, .int .i64 a0.f_sizes_0.f_Cols]) .z agg_34 siz_34 rfl (.t .z) rfl) (lCallS fok_49 (.c (.t .z) .n) (plane_New_c _) .n rfl rfl (fun o2 x3 h4 => ?_) (fun o5 x6 h7 => ?_)))
   ·refine lM .z (lR (dExtract (.t .z) rfl) (lRdN (dExtract (.t .z1) rfl) rfl (lR (dNil (.t .z9)) (lR (dFld fld_57_2 (by decide) (.t .z) rfl) (lChU (uStore .z2 siz_39 rfl .z5 (.t .z) (.t .z2)) (lKeep .n (lNil (xLeave hD ?_))))))))
    exact lvRet (rs := []) rfl .n (x3.1.1, x3.1.2) rfl (.c .z2 (.c .z (.c .z .nil)))
   ·exact lM .z (lR (dExtract (.t .z) rfl) (lRdN (dExtract (.t .z1) rfl) rfl (lR (dNil (.t .z9)) (lR (dFld fld_57_2 (by decide) (.t .z) rfl) (lChU (uStore .z siz_39 rfl .z5 (.t .z) (.t .z2)) (lKeep .n (lNil (xStuck))))))))
  ·refine lCase (fun h8 => ?_) (fun h8 => ?_)
   ·refine lR (dIxArrV h8 und_55 siz_34 (.t .z) (.t .z2) (by decide) (by decide)) (lR (dLoadA (us := [.int .i64 a0.f_sizes_1.f_Rows, .int .i64 a0.f_sizes_1.f_Cols]) .z agg_34 siz_34 rfl (.t .z) rfl) (lCallS fok_49 (.c (.t .z) .n) (plane_New_c _) .n rfl rfl (fun o9 x10 h11 => ?_) (fun o12 x13 h14 => ?_)))
    ·refine lM .z (lR (dExtract (.t .z) rfl) (lRdN (dExtract (.t .z1) rfl) rfl (lR (dNil (.t .z9)) (lR (dFld fld_57_2 (by decide) (.t .z) rfl) (lChU (uStore .z2 siz_39 rfl .z5 (.t .z) (.t .z2)) (lKeep .n (lNil (xLeave hD ?_))))))))
     exact lvRet (rs := []) rfl .n (x10.1.1, x10.1.2) rfl (.c .z2 (.c .z (.c .z .nil)))
    ·exact lM .z (lR (dExtract (.t .z) rfl) (lRdN (dExtract (.t .z1) rfl) rfl (lR (dNil (.t .z9)) (lR (dFld fld_57_2 (by decide) (.t .z) rfl) (lChU (uStore .z siz_39 rfl .z5 (.t .z) (.t .z2)) (lKeep .n (lNil (xStuck))))))))
   ·exact lStuck

-- (*greenscreen/screen.Screen).Clear
def screen_Screen_Clear_m (a0 : screen_Screen) : Option (screen_Screen) := (screen_Screen_renew_m a0 0).bind fun o1 => some o1
theorem screen_Screen_Clear_c (a0 : screen_Screen) (b0_0 : Nat) (b0_1 : Nat) (v0_2 : Value) : Con Tryd.prog 22 #[.pointer (some ⟨b0_0, 0, none⟩)] [.blk b0_0 [.int .i64 a0.f_sizes_0.f_Rows, .int .i64 a0.f_sizes_0.f_Cols, .int .i64 a0.f_sizes_1.f_Rows, .int .i64 a0.f_sizes_1.f_Cols, .int .i64 a0.f_which, .pointer (some ⟨b0_1, 0, none⟩)] 57, .blk b0_1 [.int .i64 a0.f_p.f_size.f_Rows, .int .i64 a0.f_p.f_size.f_Cols, v0_2, .int .i64 a0.f_p.f_cursor] 71, .own v0_2 50 k_api_Cell a0.f_p.f_cells] (screen_Screen_Clear_m a0) (fun (o : screen_Screen) (x : Nat × Value) => .tuple #[]) (fun (o : screen_Screen) (x : Nat × Value) => [.blk b0_0 [.int .i64 o.f_sizes_0.f_Rows, .int .i64 o.f_sizes_0.f_Cols, .int .i64 o.f_sizes_1.f_Rows, .int .i64 o.f_sizes_1.f_Cols, .int .i64 o.f_which, .pointer (some ⟨x.1, 0, none⟩)] 57, .blk x.1 [.int .i64 o.f_p.f_size.f_Rows, .int .i64 o.f_p.f_size.f_Cols, x.2, .int .i64 o.f_p.f_cursor] 71, .own x.2 50 k_api_Cell o.f_p.f_cells]) := by
  unfold screen_Screen_Clear_m
  refine con (args := [.pointer (some ⟨b0_0, 0, none⟩)]) Tryd.func22 rfl 4 rfl (.c .n) rfl fun c hD hrn => ?_
  refine cRegion (lM .z (lCallN fok_35 (.c (.t .z) (.c (.c rfl) .n)) (screen_Screen_renew_c a0 0 b0_0 b0_1 v0_2) (.c .z (.c .z (.c .z .n))) rfl fun o1 x2 h3 => ?_))
  exact lKeep .n (lNil (xLeave hD (lvRet (rs := []) rfl .n (x2.1, x2.2) rfl (.c .z (.c .z (.c .z .nil))))))

-- (*greenscreen/screen.Screen).renew
def screen_Screen_renew_v0_m (a0 : screen_Screen) (a1 : Int) : Option (screen_Screen) := (if a1 = 0 then (plane_New_m a0.f_sizes_0).bind (onE (fun (o2 : plane_Plane) => some (⟨a0.f_sizes_0, a0.f_sizes_1, a1, o2⟩ : screen_Screen)) (fun (o5 : Unit) => none)) else (if a1 = 1 then (plane_New_m a0.f_sizes_1).bind (onE (fun (o9 : plane_Plane) => some (⟨a0.f_sizes_0, a0.f_sizes_1, a1, o9⟩ : screen_Screen)) (fun (o12 : Unit) => none)) else none))
theorem screen_Screen_renew_v0_c (a0 : screen_Screen) (a1 : Int) (b0_0 : Nat) : Con Tryd.prog 35 #[.pointer (some ⟨b0_0, 0, none⟩), .int .i64 a1] [.blk b0_0 [.int .i64 a0.f_sizes_0.f_Rows, .int .i64 a0.f_sizes_0.f_Cols, .int .i64 a0.f_sizes_1.f_Rows, .int .i64 a0.f_sizes_1.f_Cols, .int .i64 a0.f_which, .pointer none] 57] (screen_Screen_renew_v0_m a0 a1) (fun (o : screen_Screen) (x : Nat × Value) => .tuple #[]) (fun (o : screen_Screen) (x : Nat × Value) => [.blk b0_0 [.int .i64 o.f_sizes_0.f_Rows, .int .i64 o.f_sizes_0.f_Cols, .int .i64 o.f_sizes_1.f_Rows, .int .i64 o.f_sizes_1.f_Cols, .int .i64 o.f_which, .pointer (some ⟨x.1, 0, none⟩)] 57, .blk x.1 [.int .i64 o.f_p.f_size.f_Rows, .int .i64 o.f_p.f_size.f_Cols, x.2, .int .i64 o.f_p.f_cursor] 71, .own x.2 50 k_api_Cell o.f_p.f_cells]) := by
  unfold screen_Screen_renew_v0_m
  refine con (args := [.pointer (some ⟨b0_0, 0, none⟩), .int .i64 a1]) Tryd.func35 rfl 21 rfl (.c (.c .n)) rfl fun c hD hrn => ?_
  refine cSeq (cRegion (lM .z (lM .z2 (lR (dNil (.t .z1)) (lR (dFld fld_57_1 (by decide) (.t .z) rfl) (lChU (uStore .z siz_3 rfl .z4 (.t .z) (.t .z2)) (lKeep (.d (.d (.d (.d (.k (.k .n)))))) (lNil ?_))))))))
  refine xCode (cRegion (lM .z (lM .z1 (lM .z3 (lR (dNil (.t .z1)) (lR (dFld fld_57_0 (by decide) (.t .z) rfl) (lCase (fun h1 => ?_) (fun h1 => ?_))))))))
  ·refine lR (dIxArrV h1 und_55 siz_34 (.t .z) (.t .z2) (by decide) (by decide)) (lR (dLoadA (us := [.int .i64 a0.f_sizes_0.f_Rows, .int .i64 a0.f_sizes_0.f_Cols]) .z agg_34 siz_34 rfl (.t .z) rfl) (lCallS fok_49 (.c (.t .z) .n) (plane_New_c _) .n rfl rfl (fun o2 x3 h4 => ?_) (fun o5 x6 h7 => ?_)))
   ·refine lM .z (lR (dExtract (.t .z) rfl) (lRdN (dExtract (.t .z1) rfl) rfl (lR (dNil (.t .z9)) (lR (dFld fld_57_2 (by decide) (.t .z) rfl) (lChU (uStore .z2 siz_39 rfl .z5 (.t .z) (.t .z2)) (lKeep .n (lNil (xLeave hD ?_))))))))
    exact lvRet (rs := []) rfl .n (x3.1.1, x3.1.2) rfl (.c .z2 (.c .z (.c .z .nil)))
   ·exact lM .z (lR (dExtract (.t .z) rfl) (lRdN (dExtract (.t .z1) rfl) rfl (lR (dNil (.t .z9)) (lR (dFld fld_57_2 (by decide) (.t .z) rfl) (lChU (uStore .z siz_39 rfl .z5 (.t .z) (.t .z2)) (lKeep .n (lNil (xStuck))))))))
  ·refine lCase (fun h8 => ?_) (fun h8 => ?_)
   ·refine lR (dIxArrV h8 und_55 siz_34 (.t .z) (.t .z2) (by decide) (by decide)) (lR (dLoadA (us := [.int .i64 a0.f_sizes_1.f_Rows, .int .i64 a0.f_sizes_1.f_Cols]) .z agg_34 siz_34 rfl (.t .z) rfl) (lCallS fok_49 (.c (.t .z) .n) (plane_New_c _) .n rfl rfl (fun o9 x10 h11 => ?_) (fun o12 x13 h14 => ?_)))
    ·refine lM .z (lR (dExtract (.t .z) rfl) (lRdN (dExtract (.t .z1) rfl) rfl (lR (dNil (.t .z9)) (lR (dFld fld_57_2 (by decide) (.t .z) rfl) (lChU (uStore .z2 siz_39 rfl .z5 (.t .z) (.t .z2)) (lKeep .n (lNil (xLeave hD ?_))))))))
     exact lvRet (rs := []) rfl .n (x10.1.1, x10.1.2) rfl (.c .z2 (.c .z (.c .z .nil)))
    ·exact lM .z (lR (dExtract (.t .z) rfl) (lRdN (dExtract (.t .z1) rfl) rfl (lR (dNil (.t .z9)) (lR (dFld fld_57_2 (by decide) (.t .z) rfl) (lChU (uStore .z siz_39 rfl .z5 (.t .z) (.t .z2)) (lKeep .n (lNil (xStuck))))))))
   ·exact lStuck

-- (*greenscreen/screen.Screen).Clear
def screen_Screen_Clear_v0_m (a0 : screen_Screen) : Option (screen_Screen) := (screen_Screen_renew_v0_m (⟨a0.f_sizes_0, a0.f_sizes_1, a0.f_which, (default : plane_Plane)⟩ : screen_Screen) 0).bind fun o1 => some o1
theorem screen_Screen_Clear_v0_c (a0 : screen_Screen) (b0_0 : Nat) : Con Tryd.prog 22 #[.pointer (some ⟨b0_0, 0, none⟩)] [.blk b0_0 [.int .i64 a0.f_sizes_0.f_Rows, .int .i64 a0.f_sizes_0.f_Cols, .int .i64 a0.f_sizes_1.f_Rows, .int .i64 a0.f_sizes_1.f_Cols, .int .i64 a0.f_which, .pointer none] 57] (screen_Screen_Clear_v0_m a0) (fun (o : screen_Screen) (x : Nat × Value) => .tuple #[]) (fun (o : screen_Screen) (x : Nat × Value) => [.blk b0_0 [.int .i64 o.f_sizes_0.f_Rows, .int .i64 o.f_sizes_0.f_Cols, .int .i64 o.f_sizes_1.f_Rows, .int .i64 o.f_sizes_1.f_Cols, .int .i64 o.f_which, .pointer (some ⟨x.1, 0, none⟩)] 57, .blk x.1 [.int .i64 o.f_p.f_size.f_Rows, .int .i64 o.f_p.f_size.f_Cols, x.2, .int .i64 o.f_p.f_cursor] 71, .own x.2 50 k_api_Cell o.f_p.f_cells]) := by
  unfold screen_Screen_Clear_v0_m
  refine con (args := [.pointer (some ⟨b0_0, 0, none⟩)]) Tryd.func22 rfl 4 rfl (.c .n) rfl fun c hD hrn => ?_
  refine cRegion (lM .z (lCallN fok_35 (.c (.t .z) (.c (.c rfl) .n)) (screen_Screen_renew_v0_c _ 0 b0_0) (.c .z .n) rfl fun o1 x2 h3 => ?_))
  exact lKeep .n (lNil (xLeave hD (lvRet (rs := []) rfl .n (x2.1, x2.2) rfl (.c .z (.c .z (.c .z .nil))))))

-- greenscreen/screen.New
def screen_New_m (a0 : api_Size) (a1 : api_Size) : Option (Sum (screen_Screen) (Unit)) := ((addr_Cells_m a0).bind fun o3 => (if o3 = 0 then some true else (addr_Cells_m a1).bind fun o7 => some (decide (o7 = 0)))).bind fun (s10 : Bool) => (if s10 = true then some (Sum.inr ()) else (screen_Screen_Clear_v0_m (⟨a0, a1, 0, (default : plane_Plane)⟩ : screen_Screen)).bind fun o14 => some (Sum.inl o14))
theorem screen_New_c (a0 : api_Size) (a1 : api_Size) : Con Tryd.prog 8 #[.agg #[.int .i64 a0.f_Rows, .int .i64 a0.f_Cols], .agg #[.int .i64 a1.f_Rows, .int .i64 a1.f_Cols]] [] (screen_New_m a0 a1) (resS (fun (o : screen_Screen) (x : (Nat × Nat × Value) × (Unit)) => .tuple #[.pointer (some ⟨x.1.1, 0, none⟩), .int .i64 0]) (fun (e : Unit) (x : (Nat × Nat × Value) × (Unit)) => .tuple #[.pointer none, .int .i64 1])) (loE (fun (o : screen_Screen) (x : (Nat × Nat × Value) × (Unit)) => [.blk x.1.1 [.int .i64 o.f_sizes_0.f_Rows, .int .i64 o.f_sizes_0.f_Cols, .int .i64 o.f_sizes_1.f_Rows, .int .i64 o.f_sizes_1.f_Cols, .int .i64 o.f_which, .pointer (some ⟨x.1.2.1, 0, none⟩)] 57, .blk x.1.2.1 [.int .i64 o.f_p.f_size.f_Rows, .int .i64 o.f_p.f_size.f_Cols, x.1.2.2, .int .i64 o.f_p.f_cursor] 71, .own x.1.2.2 50 k_api_Cell o.f_p.f_cells]) (fun (e : Unit) (x : (Nat × Nat × Value) × (Unit)) => [])) := by
  unfold screen_New_m
  refine con (args := [.agg #[.int .i64 a0.f_Rows, .int .i64 a0.f_Cols], .agg #[.int .i64 a1.f_Rows, .int .i64 a1.f_Cols]]) Tryd.func8 rfl 23 rfl (.c (.c .n)) rfl fun c hD hrn => ?_
  refine cSeq (cRegion (lCh (cBox (cs := [.int .i64 a0.f_Rows, .int .i64 a0.f_Cols]) (.t .z) rfl) rfl rfl fun b1 => ?_))
  refine lCh (cBox (cs := [.int .i64 a1.f_Rows, .int .i64 a1.f_Cols]) (.t .z2) rfl) rfl rfl fun b2 => ?_
  refine lR (dAssign (.c rfl)) (lR (dAssign (.c rfl)) (lKeep (.k (.k (.k (.k .n)))) (lNil (xCode (cSeq (cSeq (cJoin (S := Bool) (X := Unit) (fun (s : Bool) (x : Unit) => [(14, .bool s), (5, .int .i64 0), (4, .pointer none), (3, .pointer (some ⟨b2, 0, none⟩)), (2, .pointer (some ⟨b1, 0, none⟩))]) (fun (s : Bool) (x : Unit) => [.blk b2 [.int .i64 a1.f_Rows, .int .i64 a1.f_Cols] 34, .blk b1 [.int .i64 a0.f_Rows, .int .i64 a0.f_Cols] 34]) ?_ (fun s10 x11 => ?_))))))))
  ·refine cRegion (lR (dLoadA (us := [.int .i64 a0.f_Rows, .int .i64 a0.f_Cols]) .z1 agg_34 siz_34 rfl (.t .z3) rfl) (lCall fok_21 (.c (.t .z) .n) (addr_Cells_c a0) .n rfl rfl fun o3 x4 h5 => ?_))
   refine lR (dEq (.t .z) (.c rfl)) (lM .z (lCase (fun h6 => ?_) (fun h6 => ?_)))
   ·exact lPass rfl .z (nbF (decide_eq_true h6)) rfl (lPass rfl .z (nbF (decide_eq_true h6)) rfl (lPass rfl .z (nbF (decide_eq_true h6)) rfl (lR (dPickT (.t .z) (decide_eq_true h6) (.c rfl)) (lKeep (.k (.d (.d (.d (.d (.k (.k (.k (.k .n))))))))) (lNil (xJoin true () (.c .z (.c .z1 (.c .z2 (.c .z3 (.c .z4 .n))))) (.c .z (.c .z .nil))))))))
   ·refine lG .z (decide_eq_false h6) (dLoadA (us := [.int .i64 a1.f_Rows, .int .i64 a1.f_Cols]) .z agg_34 siz_34 rfl (.t .z6) rfl) (lCallG rfl .z1 (decide_eq_false h6) fok_21 (.c (.t .z) .n) (addr_Cells_c a1) .n rfl rfl fun o7 x8 h9 => ?_)
    exact lG .z2 (decide_eq_false h6) (dEq (.t .z) (.c rfl)) (lR (dPickF (.t .z3) (decide_eq_false h6) (.t .z)) (lKeep (.k (.d (.d (.d (.d (.d (.d (.d (.k (.k (.k (.k .n)))))))))))) (lNil (xJoin (decide (o7 = 0)) () (.c .z (.c .z1 (.c .z2 (.c .z3 (.c .z4 .n))))) (.c .z (.c .z .nil))))))
  ·refine xCode (cCondB (.t .z) (fun h12 => ?_) (fun h12 => ?_))
   ·refine cSeq (cRegion (lRdK (dAssign (.c rfl)) (.k (.k (.d (Keep.refl _)))) rfl rfl (lRdK (dAssign (.c rfl)) (.k (.k (.d (Keep.refl _)))) rfl rfl (lKeep (.k (.k (.d (.k (.k .n))))) (lNil (xCode (cRet (rLeave hD ?_))))))))
    exact lvRet (rs := [.tmp 4, .tmp 5]) rfl (.t .z1 (.t .z .n)) ((0, 0, undef), ()) rfl .nil
   ·refine cSkip (xCode (cSeq (cRegion (lR (dLoadA (us := [.int .i64 a0.f_Rows, .int .i64 a0.f_Cols]) .z1 agg_34 siz_34 rfl (.t .z4) rfl) (lR (dLoadA (us := [.int .i64 a1.f_Rows, .int .i64 a1.f_Cols]) .z agg_34 siz_34 rfl (.t .z4) rfl) (lR (dBuildArr (cs := [.int .i64 a0.f_Rows, .int .i64 a0.f_Cols, .int .i64 a1.f_Rows, .int .i64 a1.f_Cols]) zer_55 rfl und_55 siz_34 (.c (.t .z1) (.c (.t .z) .n)) rfl) (lR (dBuild (cs := [.int .i64 a0.f_Rows, .int .i64 a0.f_Cols, .int .i64 a1.f_Rows, .int .i64 a1.f_Cols, .int .i64 0, .pointer none]) zer_57 rfl plc_57 (.c (.t .z) .n) rfl) ?_)))))))
    refine lCh (cBox (cs := [.int .i64 a0.f_Rows, .int .i64 a0.f_Cols, .int .i64 a1.f_Rows, .int .i64 a1.f_Cols, .int .i64 0, .pointer none]) (.t .z) rfl) rfl rfl fun b13 => ?_
    refine lA .z (lKeep (.k (.d (.d (.d (.d (.d (.d (.k (.k .n))))))))) (lNil (xCode (cSeq (cRegion (lM .z (lCallN fok_22 (.c (.t .z) .n) (screen_Screen_Clear_v0_c _ b13) (.c .z .n) rfl fun o14 x15 h16 => ?_)))))))
    refine lKeep (.d (.k (.k (.k .n)))) (lNil (xCode (cSeq (cRegion (lM .z (lAK .z (.k (.k (.k (.d (Keep.refl _))))) (lRdK (dAssign (.c rfl)) (.k (.k (.k (.d (Keep.refl _))))) rfl rfl (lKeep (.k (.k .n)) ?_))))))))
    exact lNil (xCode (cRet (rLeave hD (lvRet (rs := [.tmp 4, .tmp 5]) rfl (.t .z1 (.t .z .n)) ((b13, x15.1, x15.2), ()) rfl (.c .z (.c .z (.c .z .nil)))))))

-- greenscreen/keyboard.New
def keyboard_New_m (a0 : screen_Screen) : Option (keyboard_Keyboard) := some (⟨a0, (⟨0, 0, 0⟩ : lock_Lock), false, (96 : UInt8)⟩ : keyboard_Keyboard)
theorem keyboard_New_c (a0 : screen_Screen) (b0_0 : Nat) (b0_1 : Nat) (v0_2 : Value) : Con Tryd.prog 9 #[.pointer (some ⟨b0_0, 0, none⟩)] [.blk b0_0 [.int .i64 a0.f_sizes_0.f_Rows, .int .i64 a0.f_sizes_0.f_Cols, .int .i64 a0.f_sizes_1.f_Rows, .int .i64 a0.f_sizes_1.f_Cols, .int .i64 a0.f_which, .pointer (some ⟨b0_1, 0, none⟩)] 57, .blk b0_1 [.int .i64 a0.f_p.f_size.f_Rows, .int .i64 a0.f_p.f_size.f_Cols, v0_2, .int .i64 a0.f_p.f_cursor] 71, .own v0_2 50 k_api_Cell a0.f_p.f_cells] (keyboard_New_m a0) (fun (o : keyboard_Keyboard) (x : Nat) => .pointer (some ⟨x, 0, none⟩)) (fun (o : keyboard_Keyboard) (x : Nat) => [.blk b0_0 [.int .i64 a0.f_sizes_0.f_Rows, .int .i64 a0.f_sizes_0.f_Cols, .int .i64 a0.f_sizes_1.f_Rows, .int .i64 a0.f_sizes_1.f_Cols, .int .i64 a0.f_which, .pointer (some ⟨b0_1, 0, none⟩)] 57, .blk b0_1 [.int .i64 a0.f_p.f_size.f_Rows, .int .i64 a0.f_p.f_size.f_Cols, v0_2, .int .i64 a0.f_p.f_cursor] 71, .own v0_2 50 k_api_Cell a0.f_p.f_cells, .blk x [.pointer (some ⟨b0_0, 0, none⟩), .int .i64 o.f_l.f_state, .int .i64 o.f_l.f_why, .int .i64 o.f_l.f_turns, .bool o.f_insert, vB o.f_last] 61]) := by
  unfold keyboard_New_m
  refine con (args := [.pointer (some ⟨b0_0, 0, none⟩)]) Tryd.func9 rfl 6 rfl (.c .n) rfl fun c hD hrn => ?_
  refine cSeq (cRegion (lR (dAssign (.c rfl)) (lNil (xCode (cSeq (cRegion (lM .z1 (lR (dBuild (cs := [.pointer (some ⟨b0_0, 0, none⟩), .int .i64 0, .int .i64 0, .int .i64 0, .bool false, vB (96 : UInt8)]) zer_61 rfl plc_61 (.c (.t .z) (.c (.c (v' := vB 96) rfl) .n)) rfl) ?_))))))))
  refine lCh (cBox (cs := [.pointer (some ⟨b0_0, 0, none⟩), .int .i64 0, .int .i64 0, .int .i64 0, .bool false, vB (96 : UInt8)]) (.t .z) rfl) rfl rfl fun b1 => ?_
  exact lAK .z (.k (.k (.k (.d (Keep.refl _))))) (lKeep (.k .n) (lNil (xCode (cRet (rLeave hD (lvRet (rs := [.tmp 2]) rfl (.t .z .n) b1 rfl (.c .z1 (.c .z1 (.c .z1 (.c .z .nil))))))))))

-- (*greenscreen/keyboard.Keyboard).Lock
def keyboard_Keyboard_Lock_m (a0 : keyboard_Keyboard) : Option (Unit) := some ()
theorem keyboard_Keyboard_Lock_c (a0 : keyboard_Keyboard) (b0_0 : Nat) (b0_1 : Nat) (b0_2 : Nat) (v0_3 : Value) : Con Tryd.prog 10 #[.pointer (some ⟨b0_0, 0, none⟩)] [.blk b0_0 [.pointer (some ⟨b0_1, 0, none⟩), .int .i64 a0.f_l.f_state, .int .i64 a0.f_l.f_why, .int .i64 a0.f_l.f_turns, .bool a0.f_insert, vB a0.f_last] 61, .blk b0_1 [.int .i64 a0.f_s.f_sizes_0.f_Rows, .int .i64 a0.f_s.f_sizes_0.f_Cols, .int .i64 a0.f_s.f_sizes_1.f_Rows, .int .i64 a0.f_s.f_sizes_1.f_Cols, .int .i64 a0.f_s.f_which, .pointer (some ⟨b0_2, 0, none⟩)] 57, .blk b0_2 [.int .i64 a0.f_s.f_p.f_size.f_Rows, .int .i64 a0.f_s.f_p.f_size.f_Cols, v0_3, .int .i64 a0.f_s.f_p.f_cursor] 71, .own v0_3 50 k_api_Cell a0.f_s.f_p.f_cells] (keyboard_Keyboard_Lock_m a0) (fun (o : Unit) (x : Unit) => .pointer (some ⟨b0_0, 1, none⟩)) (fun (o : Unit) (x : Unit) => [.blk b0_0 [.pointer (some ⟨b0_1, 0, none⟩), .int .i64 a0.f_l.f_state, .int .i64 a0.f_l.f_why, .int .i64 a0.f_l.f_turns, .bool a0.f_insert, vB a0.f_last] 61, .blk b0_1 [.int .i64 a0.f_s.f_sizes_0.f_Rows, .int .i64 a0.f_s.f_sizes_0.f_Cols, .int .i64 a0.f_s.f_sizes_1.f_Rows, .int .i64 a0.f_s.f_sizes_1.f_Cols, .int .i64 a0.f_s.f_which, .pointer (some ⟨b0_2, 0, none⟩)] 57, .blk b0_2 [.int .i64 a0.f_s.f_p.f_size.f_Rows, .int .i64 a0.f_s.f_p.f_size.f_Cols, v0_3, .int .i64 a0.f_s.f_p.f_cursor] 71, .own v0_3 50 k_api_Cell a0.f_s.f_p.f_cells]) := by
  unfold keyboard_Keyboard_Lock_m
  refine con (args := [.pointer (some ⟨b0_0, 0, none⟩)]) Tryd.func10 rfl 6 rfl (.c .n) rfl fun c hD hrn => ?_
  refine cSeq (cRegion (lR (dAssign (.c rfl)) (lNil (xCode (cSeq (cRegion (lM .z1 (lR (dNil (.t .z)) ?_))))))))
  exact lR (dFld fld_61_1 (by decide) (.t .z) rfl) (lAK .z (.k (.k (.k (.d (Keep.refl _))))) (lKeep (.k .n) (lNil (xCode (cRet (rLeave hD (lvRet (rs := [.tmp 2]) rfl (.t .z .n) () rfl (.c .z (.c .z (.c .z (.c .z .nil)))))))))))

-- (*greenscreen/screen.Screen).Plane
def screen_Screen_Plane_m (a0 : screen_Screen) : Option (Unit) := some ()
theorem screen_Screen_Plane_c (a0 : screen_Screen) (b0_0 : Nat) (b0_1 : Nat) (v0_2 : Value) : Con Tryd.prog 11 #[.pointer (some ⟨b0_0, 0, none⟩)] [.blk b0_0 [.int .i64 a0.f_sizes_0.f_Rows, .int .i64 a0.f_sizes_0.f_Cols, .int .i64 a0.f_sizes_1.f_Rows, .int .i64 a0.f_sizes_1.f_Cols, .int .i64 a0.f_which, .pointer (some ⟨b0_1, 0, none⟩)] 57, .blk b0_1 [.int .i64 a0.f_p.f_size.f_Rows, .int .i64 a0.f_p.f_size.f_Cols, v0_2, .int .i64 a0.f_p.f_cursor] 71, .own v0_2 50 k_api_Cell a0.f_p.f_cells] (screen_Screen_Plane_m a0) (fun (o : Unit) (x : Unit) => .pointer (some ⟨b0_1, 0, none⟩)) (fun (o : Unit) (x : Unit) => [.blk b0_0 [.int .i64 a0.f_sizes_0.f_Rows, .int .i64 a0.f_sizes_0.f_Cols, .int .i64 a0.f_sizes_1.f_Rows, .int .i64 a0.f_sizes_1.f_Cols, .int .i64 a0.f_which, .pointer (some ⟨b0_1, 0, none⟩)] 57, .blk b0_1 [.int .i64 a0.f_p.f_size.f_Rows, .int .i64 a0.f_p.f_size.f_Cols, v0_2, .int .i64 a0.f_p.f_cursor] 71, .own v0_2 50 k_api_Cell a0.f_p.f_cells]) := by
  unfold screen_Screen_Plane_m
  refine con (args := [.pointer (some ⟨b0_0, 0, none⟩)]) Tryd.func11 rfl 7 rfl (.c .n) rfl fun c hD hrn => ?_
  refine cSeq (cRegion (lR (dAssign (.c rfl)) (lNil (xCode (cSeq (cRegion (lM .z1 (lR (dNil (.t .z)) ?_))))))))
  exact lR (dFld fld_57_2 (by decide) (.t .z) rfl) (lR (dLoad .z agg_39 (.t .z) rfl) (lAK .z (.k (.k (.k (.k (.d (Keep.refl _)))))) (lKeep (.k .n) (lNil (xCode (cRet (rLeave hD (lvRet (rs := [.tmp 2]) rfl (.t .z .n) () rfl (.c .z (.c .z (.c .z .nil)))))))))))

-- (*greenscreen/lock.Lock).turn
def lock_Lock_turn_m (a0 : lock_Lock) (a1 : Int) (a2 : Int) : Option (lock_Lock) := ((if a1 ≠ a0.f_state then some (w64 (a0.f_turns + 1)) else some a0.f_turns)).bind fun (s2 : Int) => some (⟨a1, a2, s2⟩ : lock_Lock)
theorem lock_Lock_turn_c (a0 : lock_Lock) (a1 : Int) (a2 : Int) (b0_0 : Nat) : Con Tryd.prog 30 #[.pointer (some ⟨b0_0, 0, none⟩), .int .i64 a1, .int .i64 a2] [.blk b0_0 [.int .i64 a0.f_state, .int .i64 a0.f_why, .int .i64 a0.f_turns] 59] (lock_Lock_turn_m a0 a1 a2) (fun (o : lock_Lock) (x : Unit) => .tuple #[]) (fun (o : lock_Lock) (x : Unit) => [.blk b0_0 [.int .i64 o.f_state, .int .i64 o.f_why, .int .i64 o.f_turns] 59]) := by
  unfold lock_Lock_turn_m
  refine con (args := [.pointer (some ⟨b0_0, 0, none⟩), .int .i64 a1, .int .i64 a2]) Tryd.func30 rfl 27 rfl (.c (.c (.c .n))) rfl fun c hD hrn => ?_
  refine cSeq (cSeq (cRegion (lM .z1 (lM .z1 (lR (dNil (.t .z)) (lR (dFld fld_59_0 (by decide) (.t .z) rfl) (lR (dLoad .z agg_3 (.t .z) rfl) (lR (dNe (.t .z4) (.t .z)) ?_))))))))
  refine lKeep (.k (.d (.d (.d (.d (.d (.k (.k (.k .n))))))))) (lNil (xCode (cJoin (S := Int) (X := Unit) (fun (s : Int) (x : Unit) => [(0, .pointer (some ⟨b0_0, 0, none⟩)), (1, .int .i64 a1), (2, .int .i64 a2)]) (fun (s : Int) (x : Unit) => [.blk b0_0 [.int .i64 a0.f_state, .int .i64 a0.f_why, .int .i64 s] 59]) ?_ (fun s2 x3 => ?_))))
  ·refine cCond (.t .z) (fun h1 => ?_) (fun h1 => ?_)
   ·refine cRegion (lM .z1 (lR (dNil (.t .z)) (lR (dFld fld_59_2 (by decide) (.t .z) rfl) (lR (dLoad .z agg_3 (.t .z) rfl) (lR (dAddI (.t .z) (.c rfl)) (lR (dNil (.t .z4)) (lR (dFld fld_59_2 (by decide) (.t .z) rfl) (lChU (uStore .z siz_3 rfl .z2 (.t .z) (.t .z2)) ?_))))))))
    exact lKeep (.d (.d (.d (.d (.d (.d (.d (.d (.k (.k (.k .n))))))))))) (lNil (xJoin (w64 (a0.f_turns + 1)) () (.c .z (.c .z1 (.c .z2 .n))) (.c .z .nil)))
   ·exact cSkip (xJoin a0.f_turns () (.c .z1 (.c .z2 (.c .z3 .n))) (.c .z .nil))
  ·refine xCode (cRegion (lM .z (lM .z1 (lM .z3 (lM .z5 (lR (dNil (.t .z3)) (lR (dFld fld_59_0 (by decide) (.t .z) rfl) (lChU (uStore .z siz_3 rfl .z (.t .z) (.t .z3)) ?_))))))))
   exact lR (dNil (.t .z4)) (lR (dFld fld_59_1 (by decide) (.t .z) rfl) (lChU (uStore .z siz_30 rfl .z1 (.t .z) (.t .z4)) (lKeep .n (lNil (xLeave hD (lvRet (rs := []) rfl .n () rfl (.c .z .nil)))))))

-- (*greenscreen/lock.Lock).Open
def lock_Lock_Open_m (a0 : lock_Lock) : Option (lock_Lock) := (lock_Lock_turn_m a0 1 0).bind fun o1 => some o1
theorem lock_Lock_Open_c (a0 : lock_Lock) (b0_0 : Nat) : Con Tryd.prog 13 #[.pointer (some ⟨b0_0, 0, none⟩)] [.blk b0_0 [.int .i64 a0.f_state, .int .i64 a0.f_why, .int .i64 a0.f_turns] 59] (lock_Lock_Open_m a0) (fun (o : lock_Lock) (x : Unit) => .tuple #[]) (fun (o : lock_Lock) (x : Unit) => [.blk b0_0 [.int .i64 o.f_state, .int .i64 o.f_why, .int .i64 o.f_turns] 59]) := by
  unfold lock_Lock_Open_m
  refine con (args := [.pointer (some ⟨b0_0, 0, none⟩)]) Tryd.func13 rfl 4 rfl (.c .n) rfl fun c hD hrn => ?_
  refine cRegion (lM .z (lCallN fok_30 (.c (.t .z) (.c (.c rfl) (.c (.c rfl) .n))) (lock_Lock_turn_c a0 1 0 b0_0) (.c .z .n) rfl fun o1 x2 h3 => ?_))
  exact lKeep .n (lNil (xLeave hD (lvRet (rs := []) rfl .n () rfl (.c .z .nil))))

-- (*greenscreen/lock.Lock).Reset
def lock_Lock_Reset_m (a0 : lock_Lock) : Option (lock_Lock × Bool) := (if a0.f_state ≠ 3 then some (a0, false) else (lock_Lock_Open_m a0).bind fun o2 => some (o2, true))
theorem lock_Lock_Reset_c (a0 : lock_Lock) (b0_0 : Nat) : Con Tryd.prog 23 #[.pointer (some ⟨b0_0, 0, none⟩)] [.blk b0_0 [.int .i64 a0.f_state, .int .i64 a0.f_why, .int .i64 a0.f_turns] 59] (lock_Lock_Reset_m a0) (fun (o : lock_Lock × Bool) (x : Unit) => .bool o.2) (fun (o : lock_Lock × Bool) (x : Unit) => [.blk b0_0 [.int .i64 o.1.f_state, .int .i64 o.1.f_why, .int .i64 o.1.f_turns] 59]) := by
  unfold lock_Lock_Reset_m
  refine con (args := [.pointer (some ⟨b0_0, 0, none⟩)]) Tryd.func23 rfl 10 rfl (.c .n) rfl fun c hD hrn => ?_
  refine cSeq (cRegion (lR (dAssign (.c rfl)) (lNil (xCode (cSeq (cSeq (cRegion (lM .z1 ?_))))))))
  refine lR (dNil (.t .z)) (lR (dFld fld_59_0 (by decide) (.t .z) rfl) (lR (dLoad .z agg_3 (.t .z) rfl) (lR (dNe (.t .z) (.c rfl)) (lKeep (.k (.d (.d (.d (.d (.k (.k .n))))))) (lNil (xCode (cCond (.t .z) (fun h1 => ?_) (fun h1 => ?_))))))))
  ·exact cSeq (cRegion (lRdK (dAssign (.c rfl)) (.k (.d (Keep.refl _))) rfl rfl (lKeep (.k (.d (.k .n))) (lNil (xCode (cRet (rLeave hD (lvRet (rs := [.tmp 2]) rfl (.t .z .n) () rfl (.c .z .nil)))))))))
  ·refine cSkip (xCode (cSeq (cRegion (lM .z2 (lCallN fok_13 (.c (.t .z) .n) (lock_Lock_Open_c a0 b0_0) (.c .z .n) rfl fun o2 x3 h4 => ?_)))))
   refine lKeep (.d (.d (.k .n))) (lNil (xCode (cSeq (cRegion (lRdK (dAssign (.c rfl)) (.d (Keep.refl _)) rfl rfl (lNil (xCode (cRet ?_))))))))
   exact rLeave hD (lvRet (rs := [.tmp 2]) rfl (.t .z .n) () rfl (.c .z .nil))

-- (*greenscreen/lock.Lock).May
def lock_Lock_May_m (a0 : lock_Lock) : Option (Int) := (if a0.f_state ≠ 1 then some 40 else some 0)
theorem lock_Lock_May_c (a0 : lock_Lock) (b0_0 : Nat) : Con Tryd.prog 24 #[.pointer (some ⟨b0_0, 0, none⟩)] [.blk b0_0 [.int .i64 a0.f_state, .int .i64 a0.f_why, .int .i64 a0.f_turns] 59] (lock_Lock_May_m a0) (fun (o : Int) (x : Unit) => .int .i64 o) (fun (o : Int) (x : Unit) => [.blk b0_0 [.int .i64 a0.f_state, .int .i64 a0.f_why, .int .i64 a0.f_turns] 59]) := by
  unfold lock_Lock_May_m
  refine con (args := [.pointer (some ⟨b0_0, 0, none⟩)]) Tryd.func24 rfl 8 rfl (.c .n) rfl fun c hD hrn => ?_
  refine cSeq (cRegion (lR (dAssign (.c rfl)) (lNil (xCode (cSeq (cSeq (cRegion (lM .z1 ?_))))))))
  refine lR (dNil (.t .z)) (lR (dFld fld_59_0 (by decide) (.t .z) rfl) (lR (dLoad .z agg_3 (.t .z) rfl) (lR (dNe (.t .z) (.c rfl)) (lKeep (.k (.d (.d (.d (.d (.k .n)))))) (lNil (xCode (cCond (.t .z) (fun h1 => ?_) (fun h1 => ?_))))))))
  ·exact cSeq (cRegion (lRdK (dAssign (.c rfl)) (.k (.d (Keep.refl _))) rfl rfl (lKeep (.k .n) (lNil (xCode (cRet (rLeave hD (lvRet (rs := [.tmp 2]) rfl (.t .z .n) () rfl (.c .z .nil)))))))))
  ·refine cSkip (xCode (cSeq (cRegion (lRdK (dAssign (.c rfl)) (.k (.d (Keep.refl _))) rfl rfl (lKeep (.k .n) (lNil (xCode (cRet ?_))))))))
   exact rLeave hD (lvRet (rs := [.tmp 2]) rfl (.t .z .n) () rfl (.c .z .nil))

-- greenscreen/keyboard.right
def keyboard_right_m (a0 : keyboard_Key) : Option (Bool) := (if a0.f_Kind ≥ 1 then (if a0.f_Kind < 17 then some true else (if a0.f_Kind = 17 then (keyboard_Attention_m a0.f_Byte).bind fun o5 => some o5 else some false)) else (if a0.f_Kind = 17 then (keyboard_Attention_m a0.f_Byte).bind fun o9 => some o9 else some false))
theorem keyboard_right_c (a0 : keyboard_Key) : Con Tryd.prog 25 #[.agg #[.int .i64 a0.f_Kind, vB a0.f_Byte]] [] (keyboard_right_m a0) (fun (o : Bool) (x : Unit) => .bool o) (fun (o : Bool) (x : Unit) => []) := by
  unfold keyboard_right_m
  refine con (args := [.agg #[.int .i64 a0.f_Kind, vB a0.f_Byte]]) Tryd.func25 rfl 21 rfl (.c .n) rfl fun c hD hrn => ?_
  refine cSeq (cRegion (lCh (cBox (cs := [.int .i64 a0.f_Kind, vB a0.f_Byte]) (.t .z) rfl) rfl rfl fun b1 => ?_))
  refine lR (dAssign (.c rfl)) (lKeep (.k (.k .n)) (lNil (xCode (cSeq (cRegion (lR (dFld fld_26_0 (by decide) (.t .z1) rfl) (lR (dLoad .z agg_3 (.t .z) rfl) (lR (dGe (.t .z) (.c rfl)) ?_))))))))
  refine lM .z (lCase (fun h2 => ?_) (fun h2 => ?_))
  ·refine lG .z (decide_eq_true h2) (dFld fld_26_0 (by decide) (.t .z5) rfl) (lG .z1 (decide_eq_true h2) (dLoad .z agg_3 (.t .z) rfl) (lG .z2 (decide_eq_true h2) (dLt (.t .z) (.c rfl)) (lR (dPickT (.t .z3) (decide_eq_true h2) (.t .z)) (lM .z (lCase (fun h3 => ?_) (fun h3 => ?_))))))
   ·refine lPass rfl .z (nbF (decide_eq_true h3)) rfl (lPass rfl .z (nbF (decide_eq_true h3)) rfl (lPass rfl .z (nbF (decide_eq_true h3)) rfl (lPassU rfl .z (nbF (decide_eq_true h3)) rfl rfl (lPass rfl .z nbU rfl (lPass rfl .z nbU rfl (lPass rfl .z nbU rfl (lPass rfl .z1 (nbF (decide_eq_true h3)) rfl (lR (dPickT (.t .z1) (decide_eq_true h3) (.c rfl)) ?_))))))))
    exact lAK .z (.k (.k (.k (.k (.k (.k (.k (.k (.k (.k (.k (.d (Keep.refl _))))))))))))) (lKeep (.k .n) (lNil (xCode (cRet (rLeave hD (lvRet (rs := [.tmp 2]) rfl (.t .z .n) () rfl .nil))))))
   ·refine lG .z (decide_eq_false h3) (dFld fld_26_0 (by decide) (.t .z10) rfl) (lG .z1 (decide_eq_false h3) (dLoad .z agg_3 (.t .z) rfl) (lG .z2 (decide_eq_false h3) (dEq (.t .z) (.c rfl)) (lG .z3 (decide_eq_false h3) (dMove (.t .z)) (lCase (fun h4 => ?_) (fun h4 => ?_)))))
    ·refine lG .z (decide_eq_true h4) (dFld fld_26_1 (by decide) (.t .z14) rfl) (lG .z1 (decide_eq_true h4) (dLoad .z agg_5 (.t .z) rfl) (lCallG rfl .z2 (decide_eq_true h4) fok_7 (.c (.t .z) .n) (keyboard_Attention_c _) .n rfl rfl fun o5 x6 h7 => ?_))
     exact lG .z7 (decide_eq_false h3) (dPickT (.t .z3) (decide_eq_true h4) (.t .z)) (lR (dPickF (.t .z8) (decide_eq_false h3) (.t .z)) (lAK .z (.k (.k (.k (.k (.k (.k (.k (.k (.k (.k (.k (.k (.k (.k (.k (.k (.k (.k (.d (Keep.refl _)))))))))))))))))))) (lKeep (.k .n) (lNil (xCode (cRet (rLeave hD (lvRet (rs := [.tmp 2]) rfl (.t .z .n) () rfl .nil))))))))
    ·refine lPass rfl .z (nbT (decide_eq_false h4)) rfl (lPass rfl .z (nbT (decide_eq_false h4)) rfl (lPass rfl .z (nbT (decide_eq_false h4)) rfl (lG .z4 (decide_eq_false h3) (dPickF (.t .z) (decide_eq_false h4) (.c rfl)) (lR (dPickF (.t .z5) (decide_eq_false h3) (.t .z)) (lAK .z (.k (.k (.k (.k (.k (.k (.k (.k (.k (.k (.k (.k (.k (.k (.k (.d (Keep.refl _))))))))))))))))) (lKeep (.k .n) (lNil (xCode ?_))))))))
     exact cRet (rLeave hD (lvRet (rs := [.tmp 2]) rfl (.t .z .n) () rfl .nil))
  ·refine lPass rfl .z (nbT (decide_eq_false h2)) rfl (lPass rfl .z (nbT (decide_eq_false h2)) rfl (lPass rfl .z (nbT (decide_eq_false h2)) rfl (lR (dPickF (.t .z) (decide_eq_false h2) (.c rfl)) (lM .z (lG .z rfl (dFld fld_26_0 (by decide) (.t .z7) rfl) (lG .z1 rfl (dLoad .z agg_3 (.t .z) rfl) (lG .z2 rfl (dEq (.t .z) (.c rfl)) (lG .z3 rfl (dMove (.t .z)) ?_))))))))
   refine lCase (fun h8 => ?_) (fun h8 => ?_)
   ·refine lG .z (decide_eq_true h8) (dFld fld_26_1 (by decide) (.t .z11) rfl) (lG .z1 (decide_eq_true h8) (dLoad .z agg_5 (.t .z) rfl) (lCallG rfl .z2 (decide_eq_true h8) fok_7 (.c (.t .z) .n) (keyboard_Attention_c _) .n rfl rfl fun o9 x10 h11 => ?_))
    exact lG .z7 rfl (dPickT (.t .z3) (decide_eq_true h8) (.t .z)) (lR (dPickF (.t .z8) rfl (.t .z)) (lAK .z (.k (.k (.k (.k (.k (.k (.k (.k (.k (.k (.k (.k (.k (.k (.k (.d (Keep.refl _))))))))))))))))) (lKeep (.k .n) (lNil (xCode (cRet (rLeave hD (lvRet (rs := [.tmp 2]) rfl (.t .z .n) () rfl .nil))))))))
   ·refine lPass rfl .z (nbT (decide_eq_false h8)) rfl (lPass rfl .z (nbT (decide_eq_false h8)) rfl (lPass rfl .z (nbT (decide_eq_false h8)) rfl (lG .z4 rfl (dPickF (.t .z) (decide_eq_false h8) (.c rfl)) (lR (dPickF (.t .z5) rfl (.t .z)) (lAK .z (.k (.k (.k (.k (.k (.k (.k (.k (.k (.k (.k (.k (.d (Keep.refl _)))))))))))))) (lKeep (.k .n) (lNil (xCode ?_))))))))
    exact cRet (rLeave hD (lvRet (rs := [.tmp 2]) rfl (.t .z .n) () rfl .nil))

-- (*greenscreen/lock.Lock).Send
def lock_Lock_Send_m (a0 : lock_Lock) : Option (lock_Lock × Int) := (lock_Lock_May_m a0).bind fun o1 => (if o1 ≠ 0 then some (a0, o1) else (lock_Lock_turn_m a0 2 0).bind fun o5 => some (o5, 0))
theorem lock_Lock_Send_c (a0 : lock_Lock) (b0_0 : Nat) : Con Tryd.prog 36 #[.pointer (some ⟨b0_0, 0, none⟩)] [.blk b0_0 [.int .i64 a0.f_state, .int .i64 a0.f_why, .int .i64 a0.f_turns] 59] (lock_Lock_Send_m a0) (fun (o : lock_Lock × Int) (x : Unit) => .int .i64 o.2) (fun (o : lock_Lock × Int) (x : Unit) => [.blk b0_0 [.int .i64 o.1.f_state, .int .i64 o.1.f_why, .int .i64 o.1.f_turns] 59]) := by
  unfold lock_Lock_Send_m
  refine con (args := [.pointer (some ⟨b0_0, 0, none⟩)]) Tryd.func36 rfl 11 rfl (.c .n) rfl fun c hD hrn => ?_
  refine cSeq (cRegion (lR (dAssign (.c rfl)) (lNil (xCode (cSeq (cSeq (cRegion (lM .z1 ?_))))))))
  refine lCall fok_24 (.c (.t .z) .n) (lock_Lock_May_c a0 b0_0) (.c .z .n) rfl rfl fun o1 x2 h3 => ?_
  refine lA .z (lKeep (.k (.d (.d (.k (.k .n))))) (lNil (xCode (cSeq (cRegion (lM .z (lR (dNe (.t .z) (.c rfl)) (lKeep (.k (.d (.k (.k (.k .n))))) ?_))))))))
  refine lNil (xCode (cCond (.t .z) (fun h4 => ?_) (fun h4 => ?_)))
  ·refine cSeq (cRegion (lM .z1 (lAK .z (.k (.k (.k (.d (Keep.refl _))))) (lKeep (.k (.d (.d (.d (.k .n))))) (lNil (xCode (cRet (rLeave hD ?_))))))))
   exact lvRet (rs := [.tmp 2]) rfl (.t .z .n) () rfl (.c .z .nil)
  ·refine cSkip (xCode (cSeq (cRegion (lM .z3 (lCallN fok_30 (.c (.t .z) (.c (.c rfl) (.c (.c rfl) .n))) (lock_Lock_turn_c a0 2 0 b0_0) (.c .z .n) rfl fun o5 x6 h7 => ?_)))))
   refine lKeep (.d (.d (.d (.k .n)))) (lNil (xCode (cSeq (cRegion (lRdK (dAssign (.c rfl)) (.d (Keep.refl _)) rfl rfl (lNil (xCode (cRet ?_))))))))
   exact rLeave hD (lvRet (rs := [.tmp 2]) rfl (.t .z .n) () rfl (.c .z .nil))

-- (*greenscreen/lock.Lock).May
def lock_Lock_May_v0_m (a0 : keyboard_Keyboard) : Option (Int) := (if a0.f_l.f_state ≠ 1 then some 40 else some 0)
theorem lock_Lock_May_v0_c (a0 : keyboard_Keyboard) (b0_0 : Nat) (b0_1 : Nat) (b0_2 : Nat) (v0_3 : Value) : Con Tryd.prog 24 #[.pointer (some ⟨b0_0, 1, none⟩)] [.blk b0_0 [.pointer (some ⟨b0_1, 0, none⟩), .int .i64 a0.f_l.f_state, .int .i64 a0.f_l.f_why, .int .i64 a0.f_l.f_turns, .bool a0.f_insert, vB a0.f_last] 61, .blk b0_1 [.int .i64 a0.f_s.f_sizes_0.f_Rows, .int .i64 a0.f_s.f_sizes_0.f_Cols, .int .i64 a0.f_s.f_sizes_1.f_Rows, .int .i64 a0.f_s.f_sizes_1.f_Cols, .int .i64 a0.f_s.f_which, .pointer (some ⟨b0_2, 0, none⟩)] 57, .blk b0_2 [.int .i64 a0.f_s.f_p.f_size.f_Rows, .int .i64 a0.f_s.f_p.f_size.f_Cols, v0_3, .int .i64 a0.f_s.f_p.f_cursor] 71, .own v0_3 50 k_api_Cell a0.f_s.f_p.f_cells] (lock_Lock_May_v0_m a0) (fun (o : Int) (x : Unit) => .int .i64 o) (fun (o : Int) (x : Unit) => [.blk b0_0 [.pointer (some ⟨b0_1, 0, none⟩), .int .i64 a0.f_l.f_state, .int .i64 a0.f_l.f_why, .int .i64 a0.f_l.f_turns, .bool a0.f_insert, vB a0.f_last] 61, .blk b0_1 [.int .i64 a0.f_s.f_sizes_0.f_Rows, .int .i64 a0.f_s.f_sizes_0.f_Cols, .int .i64 a0.f_s.f_sizes_1.f_Rows, .int .i64 a0.f_s.f_sizes_1.f_Cols, .int .i64 a0.f_s.f_which, .pointer (some ⟨b0_2, 0, none⟩)] 57, .blk b0_2 [.int .i64 a0.f_s.f_p.f_size.f_Rows, .int .i64 a0.f_s.f_p.f_size.f_Cols, v0_3, .int .i64 a0.f_s.f_p.f_cursor] 71, .own v0_3 50 k_api_Cell a0.f_s.f_p.f_cells]) := by
  unfold lock_Lock_May_v0_m
  refine con (args := [.pointer (some ⟨b0_0, 1, none⟩)]) Tryd.func24 rfl 8 rfl (.c .n) rfl fun c hD hrn => ?_
  refine cSeq (cRegion (lR (dAssign (.c rfl)) (lNil (xCode (cSeq (cSeq (cRegion (lM .z1 ?_))))))))
  refine lR (dNil (.t .z)) (lR (dFld fld_59_0 (by decide) (.t .z) rfl) (lR (dLoad .z agg_3 (.t .z) rfl) (lR (dNe (.t .z) (.c rfl)) (lKeep (.k (.d (.d (.d (.d (.k .n)))))) (lNil (xCode (cCond (.t .z) (fun h1 => ?_) (fun h1 => ?_))))))))
  ·exact cSeq (cRegion (lRdK (dAssign (.c rfl)) (.k (.d (Keep.refl _))) rfl rfl (lKeep (.k .n) (lNil (xCode (cRet (rLeave hD (lvRet (rs := [.tmp 2]) rfl (.t .z .n) () rfl (.c .z (.c .z (.c .z (.c .z .nil))))))))))))
  ·refine cSkip (xCode (cSeq (cRegion (lRdK (dAssign (.c rfl)) (.k (.d (Keep.refl _))) rfl rfl (lKeep (.k .n) (lNil (xCode (cRet ?_))))))))
   exact rLeave hD (lvRet (rs := [.tmp 2]) rfl (.t .z .n) () rfl (.c .z (.c .z (.c .z (.c .z .nil)))))

-- (*greenscreen/lock.Lock).turn
def lock_Lock_turn_v0_m (a0 : keyboard_Keyboard) (a1 : Int) (a2 : Int) : Option (keyboard_Keyboard) := ((if a1 ≠ a0.f_l.f_state then some (w64 (a0.f_l.f_turns + 1)) else some a0.f_l.f_turns)).bind fun (s2 : Int) => some (⟨a0.f_s, (⟨a1, a2, s2⟩ : lock_Lock), a0.f_insert, a0.f_last⟩ : keyboard_Keyboard)
theorem lock_Lock_turn_v0_c (a0 : keyboard_Keyboard) (a1 : Int) (a2 : Int) (b0_0 : Nat) (b0_1 : Nat) (b0_2 : Nat) (v0_3 : Value) : Con Tryd.prog 30 #[.pointer (some ⟨b0_0, 1, none⟩), .int .i64 a1, .int .i64 a2] [.blk b0_0 [.pointer (some ⟨b0_1, 0, none⟩), .int .i64 a0.f_l.f_state, .int .i64 a0.f_l.f_why, .int .i64 a0.f_l.f_turns, .bool a0.f_insert, vB a0.f_last] 61, .blk b0_1 [.int .i64 a0.f_s.f_sizes_0.f_Rows, .int .i64 a0.f_s.f_sizes_0.f_Cols, .int .i64 a0.f_s.f_sizes_1.f_Rows, .int .i64 a0.f_s.f_sizes_1.f_Cols, .int .i64 a0.f_s.f_which, .pointer (some ⟨b0_2, 0, none⟩)] 57, .blk b0_2 [.int .i64 a0.f_s.f_p.f_size.f_Rows, .int .i64 a0.f_s.f_p.f_size.f_Cols, v0_3, .int .i64 a0.f_s.f_p.f_cursor] 71, .own v0_3 50 k_api_Cell a0.f_s.f_p.f_cells] (lock_Lock_turn_v0_m a0 a1 a2) (fun (o : keyboard_Keyboard) (x : Unit) => .tuple #[]) (fun (o : keyboard_Keyboard) (x : Unit) => [.blk b0_0 [.pointer (some ⟨b0_1, 0, none⟩), .int .i64 o.f_l.f_state, .int .i64 o.f_l.f_why, .int .i64 o.f_l.f_turns, .bool o.f_insert, vB o.f_last] 61, .blk b0_1 [.int .i64 o.f_s.f_sizes_0.f_Rows, .int .i64 o.f_s.f_sizes_0.f_Cols, .int .i64 o.f_s.f_sizes_1.f_Rows, .int .i64 o.f_s.f_sizes_1.f_Cols, .int .i64 o.f_s.f_which, .pointer (some ⟨b0_2, 0, none⟩)] 57, .blk b0_2 [.int .i64 o.f_s.f_p.f_size.f_Rows, .int .i64 o.f_s.f_p.f_size.f_Cols, v0_3, .int .i64 o.f_s.f_p.f_cursor] 71, .own v0_3 50 k_api_Cell o.f_s.f_p.f_cells]) := by
  unfold lock_Lock_turn_v0_m
  refine con (args := [.pointer (some ⟨b0_0, 1, none⟩), .int .i64 a1, .int .i64 a2]) Tryd.func30 rfl 27 rfl (.c (.c (.c .n))) rfl fun c hD hrn => ?_
  refine cSeq (cSeq (cRegion (lM .z1 (lM .z1 (lR (dNil (.t .z)) (lR (dFld fld_59_0 (by decide) (.t .z) rfl) (lR (dLoad .z agg_3 (.t .z) rfl) (lR (dNe (.t .z4) (.t .z)) ?_))))))))
  refine lKeep (.k (.d (.d (.d (.d (.d (.k (.k (.k .n))))))))) (lNil (xCode (cJoin (S := Int) (X := Unit) (fun (s : Int) (x : Unit) => [(0, .pointer (some ⟨b0_0, 1, none⟩)), (1, .int .i64 a1), (2, .int .i64 a2)]) (fun (s : Int) (x : Unit) => [.blk b0_0 [.pointer (some ⟨b0_1, 0, none⟩), .int .i64 a0.f_l.f_state, .int .i64 a0.f_l.f_why, .int .i64 s, .bool a0.f_insert, vB a0.f_last] 61, .blk b0_1 [.int .i64 a0.f_s.f_sizes_0.f_Rows, .int .i64 a0.f_s.f_sizes_0.f_Cols, .int .i64 a0.f_s.f_sizes_1.f_Rows, .int .i64 a0.f_s.f_sizes_1.f_Cols, .int .i64 a0.f_s.f_which, .pointer (some ⟨b0_2, 0, none⟩)] 57, .blk b0_2 [.int .i64 a0.f_s.f_p.f_size.f_Rows, .int .i64 a0.f_s.f_p.f_size.f_Cols, v0_3, .int .i64 a0.f_s.f_p.f_cursor] 71, .own v0_3 50 k_api_Cell a0.f_s.f_p.f_cells]) ?_ (fun s2 x3 => ?_))))
  ·refine cCond (.t .z) (fun h1 => ?_) (fun h1 => ?_)
   ·refine cRegion (lM .z1 (lR (dNil (.t .z)) (lR (dFld fld_59_2 (by decide) (.t .z) rfl) (lR (dLoad .z agg_3 (.t .z) rfl) (lR (dAddI (.t .z) (.c rfl)) (lR (dNil (.t .z4)) (lR (dFld fld_59_2 (by decide) (.t .z) rfl) (lChU (uStore .z siz_3 rfl .z3 (.t .z) (.t .z2)) ?_))))))))
    exact lKeep (.d (.d (.d (.d (.d (.d (.d (.d (.k (.k (.k .n))))))))))) (lNil (xJoin (w64 (a0.f_l.f_turns + 1)) () (.c .z (.c .z1 (.c .z2 .n))) (.c .z (.c .z (.c .z (.c .z .nil))))))
   ·exact cSkip (xJoin a0.f_l.f_turns () (.c .z1 (.c .z2 (.c .z3 .n))) (.c .z (.c .z (.c .z (.c .z .nil)))))
  ·refine xCode (cRegion (lM .z (lM .z1 (lM .z3 (lM .z5 (lR (dNil (.t .z3)) (lR (dFld fld_59_0 (by decide) (.t .z) rfl) (lChU (uStore .z siz_3 rfl .z1 (.t .z) (.t .z3)) ?_))))))))
   exact lR (dNil (.t .z4)) (lR (dFld fld_59_1 (by decide) (.t .z) rfl) (lChU (uStore .z siz_30 rfl .z2 (.t .z) (.t .z4)) (lKeep .n (lNil (xLeave hD (lvRet (rs := []) rfl .n () rfl (.c .z (.c .z (.c .z (.c .z .nil))))))))))

-- (*greenscreen/lock.Lock).Send
def lock_Lock_Send_v0_m (a0 : keyboard_Keyboard) : Option (keyboard_Keyboard × Int) := (lock_Lock_May_v0_m a0).bind fun o1 => (if o1 ≠ 0 then some (a0, o1) else (lock_Lock_turn_v0_m a0 2 0).bind fun o5 => some (o5, 0))
theorem lock_Lock_Send_v0_c (a0 : keyboard_Keyboard) (b0_0 : Nat) (b0_1 : Nat) (b0_2 : Nat) (v0_3 : Value) : Con Tryd.prog 36 #[.pointer (some ⟨b0_0, 1, none⟩)] [.blk b0_0 [.pointer (some ⟨b0_1, 0, none⟩), .int .i64 a0.f_l.f_state, .int .i64 a0.f_l.f_why, .int .i64 a0.f_l.f_turns, .bool a0.f_insert, vB a0.f_last] 61, .blk b0_1 [.int .i64 a0.f_s.f_sizes_0.f_Rows, .int .i64 a0.f_s.f_sizes_0.f_Cols, .int .i64 a0.f_s.f_sizes_1.f_Rows, .int .i64 a0.f_s.f_sizes_1.f_Cols, .int .i64 a0.f_s.f_which, .pointer (some ⟨b0_2, 0, none⟩)] 57, .blk b0_2 [.int .i64 a0.f_s.f_p.f_size.f_Rows, .int .i64 a0.f_s.f_p.f_size.f_Cols, v0_3, .int .i64 a0.f_s.f_p.f_cursor] 71, .own v0_3 50 k_api_Cell a0.f_s.f_p.f_cells] (lock_Lock_Send_v0_m a0) (fun (o : keyboard_Keyboard × Int) (x : Unit) => .int .i64 o.2) (fun (o : keyboard_Keyboard × Int) (x : Unit) => [.blk b0_0 [.pointer (some ⟨b0_1, 0, none⟩), .int .i64 o.1.f_l.f_state, .int .i64 o.1.f_l.f_why, .int .i64 o.1.f_l.f_turns, .bool o.1.f_insert, vB o.1.f_last] 61, .blk b0_1 [.int .i64 o.1.f_s.f_sizes_0.f_Rows, .int .i64 o.1.f_s.f_sizes_0.f_Cols, .int .i64 o.1.f_s.f_sizes_1.f_Rows, .int .i64 o.1.f_s.f_sizes_1.f_Cols, .int .i64 o.1.f_s.f_which, .pointer (some ⟨b0_2, 0, none⟩)] 57, .blk b0_2 [.int .i64 o.1.f_s.f_p.f_size.f_Rows, .int .i64 o.1.f_s.f_p.f_size.f_Cols, v0_3, .int .i64 o.1.f_s.f_p.f_cursor] 71, .own v0_3 50 k_api_Cell o.1.f_s.f_p.f_cells]) := by
  unfold lock_Lock_Send_v0_m
  refine con (args := [.pointer (some ⟨b0_0, 1, none⟩)]) Tryd.func36 rfl 11 rfl (.c .n) rfl fun c hD hrn => ?_
  refine cSeq (cRegion (lR (dAssign (.c rfl)) (lNil (xCode (cSeq (cSeq (cRegion (lM .z1 ?_))))))))
  refine lCall fok_24 (.c (.t .z) .n) (lock_Lock_May_v0_c a0 b0_0 b0_1 b0_2 v0_3) (.c .z (.c .z (.c .z (.c .z .n)))) rfl rfl fun o1 x2 h3 => ?_
  refine lA .z (lKeep (.k (.d (.d (.k (.k .n))))) (lNil (xCode (cSeq (cRegion (lM .z (lR (dNe (.t .z) (.c rfl)) (lKeep (.k (.d (.k (.k (.k .n))))) ?_))))))))
  refine lNil (xCode (cCond (.t .z) (fun h4 => ?_) (fun h4 => ?_)))
  ·refine cSeq (cRegion (lM .z1 (lAK .z (.k (.k (.k (.d (Keep.refl _))))) (lKeep (.k (.d (.d (.d (.k .n))))) (lNil (xCode (cRet (rLeave hD ?_))))))))
   exact lvRet (rs := [.tmp 2]) rfl (.t .z .n) () rfl (.c .z (.c .z (.c .z (.c .z .nil))))
  ·refine cSkip (xCode (cSeq (cRegion (lM .z3 (lCallN fok_30 (.c (.t .z) (.c (.c rfl) (.c (.c rfl) .n))) (lock_Lock_turn_v0_c a0 2 0 b0_0 b0_1 b0_2 v0_3) (.c .z (.c .z (.c .z (.c .z .n)))) rfl fun o5 x6 h7 => ?_)))))
   refine lKeep (.d (.d (.d (.k .n)))) (lNil (xCode (cSeq (cRegion (lRdK (dAssign (.c rfl)) (.d (Keep.refl _)) rfl rfl (lNil (xCode (cRet ?_))))))))
   exact rLeave hD (lvRet (rs := [.tmp 2]) rfl (.t .z .n) () rfl (.c .z (.c .z (.c .z (.c .z .nil)))))

-- (*greenscreen/keyboard.Keyboard).send
def keyboard_Keyboard_send_m (a0 : keyboard_Keyboard) (a1 : UInt8) : Option (keyboard_Keyboard × Bool × Int) := (lock_Lock_Send_v0_m a0).bind fun o1 => (if o1.2 ≠ 0 then some (o1.1, false, o1.2) else (if a1 = (109 : UInt8) then (screen_Screen_Clear_m o1.1.f_s).bind fun o6 => some ((⟨o6, o1.1.f_l, false, a1⟩ : keyboard_Keyboard), true, 0) else some ((⟨o1.1.f_s, o1.1.f_l, false, a1⟩ : keyboard_Keyboard), true, 0)))
theorem keyboard_Keyboard_send_c (a0 : keyboard_Keyboard) (a1 : UInt8) (b0_0 : Nat) (b0_1 : Nat) (b0_2 : Nat) (v0_3 : Value) : Con Tryd.prog 26 #[.pointer (some ⟨b0_0, 0, none⟩), vB a1] [.blk b0_0 [.pointer (some ⟨b0_1, 0, none⟩), .int .i64 a0.f_l.f_state, .int .i64 a0.f_l.f_why, .int .i64 a0.f_l.f_turns, .bool a0.f_insert, vB a0.f_last] 61, .blk b0_1 [.int .i64 a0.f_s.f_sizes_0.f_Rows, .int .i64 a0.f_s.f_sizes_0.f_Cols, .int .i64 a0.f_s.f_sizes_1.f_Rows, .int .i64 a0.f_s.f_sizes_1.f_Cols, .int .i64 a0.f_s.f_which, .pointer (some ⟨b0_2, 0, none⟩)] 57, .blk b0_2 [.int .i64 a0.f_s.f_p.f_size.f_Rows, .int .i64 a0.f_s.f_p.f_size.f_Cols, v0_3, .int .i64 a0.f_s.f_p.f_cursor] 71, .own v0_3 50 k_api_Cell a0.f_s.f_p.f_cells] (keyboard_Keyboard_send_m a0 a1) (fun (o : keyboard_Keyboard × Bool × Int) (x : Nat × Value) => .tuple #[.bool o.2.1, .int .i64 o.2.2]) (fun (o : keyboard_Keyboard × Bool × Int) (x : Nat × Value) => [.blk b0_0 [.pointer (some ⟨b0_1, 0, none⟩), .int .i64 o.1.f_l.f_state, .int .i64 o.1.f_l.f_why, .int .i64 o.1.f_l.f_turns, .bool o.1.f_insert, vB o.1.f_last] 61, .blk b0_1 [.int .i64 o.1.f_s.f_sizes_0.f_Rows, .int .i64 o.1.f_s.f_sizes_0.f_Cols, .int .i64 o.1.f_s.f_sizes_1.f_Rows, .int .i64 o.1.f_s.f_sizes_1.f_Cols, .int .i64 o.1.f_s.f_which, .pointer (some ⟨x.1, 0, none⟩)] 57, .blk x.1 [.int .i64 o.1.f_s.f_p.f_size.f_Rows, .int .i64 o.1.f_s.f_p.f_size.f_Cols, x.2, .int .i64 o.1.f_s.f_p.f_cursor] 71, .own x.2 50 k_api_Cell o.1.f_s.f_p.f_cells]) := by
  unfold keyboard_Keyboard_send_m
  refine con (args := [.pointer (some ⟨b0_0, 0, none⟩), vB a1]) Tryd.func26 rfl 28 rfl (.c (.c .n)) rfl fun c hD hrn => ?_
  refine cSeq (cRegion (lR (dAssign (.c rfl)) (lR (dAssign (.c rfl)) (lNil (xCode (cSeq (cSeq (cRegion ?_))))))))
  refine lM .z2 (lR (dNil (.t .z)) (lR (dFld fld_61_1 (by decide) (.t .z) rfl) (lCall fok_36 (.c (.t .z) .n) (lock_Lock_Send_v0_c a0 b0_0 b0_1 b0_2 v0_3) (.c .z (.c .z (.c .z (.c .z .n)))) rfl rfl fun o1 x2 h3 => ?_)))
  refine lA .z (lKeep (.k (.d (.d (.d (.d (.k (.k (.k (.k .n))))))))) (lNil (xCode (cSeq (cRegion (lM .z (lR (dNe (.t .z) (.c rfl)) (lKeep (.k (.d (.k (.k (.k (.k (.k .n))))))) ?_))))))))
  refine lNil (xCode (cCond (.t .z) (fun h4 => ?_) (fun h4 => ?_)))
  ·refine cSeq (cRegion (lM .z1 (lRdK (dAssign (.c rfl)) (.k (.k (.k (.k (.d (Keep.refl _)))))) rfl rfl (lAK .z1 (.k (.k (.k (.k (.d (Keep.refl _)))))) (lKeep (.k (.k (.d (.d (.d (.k (.k .n))))))) (lNil (xCode (cRet ?_))))))))
   exact rLeave hD (lvRet (rs := [.tmp 4, .tmp 5]) rfl (.t .z1 (.t .z .n)) (b0_2, v0_3) rfl (.c .z (.c .z (.c .z (.c .z .nil)))))
  ·refine cSkip (xCode (cSeq (cRegion (lM .z4 (lM .z5 (lM .z7 (lR (dNil (.t .z2)) (lR (dFld fld_61_2 (by decide) (.t .z) rfl) ?_))))))))
   refine lChU (uStore .z siz_4 rfl .z4 (.t .z) (.c rfl)) (lR (dNil (.t .z3)) (lR (dFld fld_61_3 (by decide) (.t .z) rfl) (lChU (uStore .z siz_5 rfl .z5 (.t .z) (.t .z4)) (lKeep (.d (.d (.d (.d (.d (.d (.d (.d (.d (.k (.k (.k (.k .n))))))))))))) (lNil (xCode (cSeq (cSeq ?_))))))))
   refine cRegion (lM .z3 (lR (dEqB (.t .z) (.c (v' := vB 109) rfl)) (lKeep (.k (.d (.k (.k (.k .n))))) (lNil (xCode (cCond (.t .z) (fun h5 => ?_) (fun h5 => ?_)))))))
   ·refine cRegion (lM .z3 (lR (dNil (.t .z)) (lR (dFld fld_61_0 (by decide) (.t .z) rfl) (lR (dLoad .z agg_29 (.t .z) rfl) (lCallN fok_22 (.c (.t .z) .n) (screen_Screen_Clear_c _ b0_1 b0_2 v0_3) (.c .z1 (.c .z1 (.c .z1 .n))) rfl fun o6 x7 h8 => ?_)))))
    refine lKeep (.d (.d (.d (.d (.d (.k (.k .n))))))) (lNil (xCode (cSeq (cRegion (lRdK (dAssign (.c rfl)) (.k (.d (Keep.refl _))) rfl rfl (lRdK (dAssign (.c rfl)) (.k (.d (Keep.refl _))) rfl rfl (lNil (xCode ?_))))))))
    exact cRet (rLeave hD (lvRet (rs := [.tmp 4, .tmp 5]) rfl (.t .z1 (.t .z .n)) (x7.1, x7.2) rfl (.c .z3 (.c .z (.c .z (.c .z .nil))))))
   ·refine cSkip (xCode (cSeq (cRegion (lRdK (dAssign (.c rfl)) (.k (.k (.d (Keep.refl _)))) rfl rfl (lRdK (dAssign (.c rfl)) (.k (.k (.d (Keep.refl _)))) rfl rfl (lKeep (.k (.k .n)) (lNil (xCode ?_))))))))
    exact cRet (rLeave hD (lvRet (rs := [.tmp 4, .tmp 5]) rfl (.t .z1 (.t .z .n)) (b0_2, v0_3) rfl (.c .z (.c .z (.c .z (.c .z .nil))))))

-- (*greenscreen/plane.Plane).has
def plane_Plane_has_m (a0 : plane_Plane) (a1 : Int) : Option (Bool) := (if a1 ≥ 0 then some (decide (a1 < (a0.f_cells.length : Int))) else some false)
theorem plane_Plane_has_c (a0 : plane_Plane) (a1 : Int) (b0_0 : Nat) (v0_1 : Value) : Con Tryd.prog 32 #[.pointer (some ⟨b0_0, 0, none⟩), .int .i64 a1] [.blk b0_0 [.int .i64 a0.f_size.f_Rows, .int .i64 a0.f_size.f_Cols, v0_1, .int .i64 a0.f_cursor] 71, .own v0_1 50 k_api_Cell a0.f_cells] (plane_Plane_has_m a0 a1) (fun (o : Bool) (x : Unit) => .bool o) (fun (o : Bool) (x : Unit) => [.blk b0_0 [.int .i64 a0.f_size.f_Rows, .int .i64 a0.f_size.f_Cols, v0_1, .int .i64 a0.f_cursor] 71, .own v0_1 50 k_api_Cell a0.f_cells]) := by
  unfold plane_Plane_has_m
  refine con (args := [.pointer (some ⟨b0_0, 0, none⟩), .int .i64 a1]) Tryd.func32 rfl 16 rfl (.c (.c .n)) rfl fun c hD hrn => ?_
  refine cSeq (cRegion (lR (dAssign (.c rfl)) (lNil (xCode (cSeq (cRegion (lM .z2 (lR (dGe (.t .z) (.c rfl)) ?_))))))))
  refine lM .z (lCase (fun h1 => ?_) (fun h1 => ?_))
  ·refine lG .z (decide_eq_true h1) (dMove (.t .z5)) (lG .z1 (decide_eq_true h1) (dMove (.t .z5)) (lG .z2 (decide_eq_true h1) (dNil (.t .z)) (lG .z3 (decide_eq_true h1) (dFld fld_71_1 (by decide) (.t .z) rfl) (lG .z4 (decide_eq_true h1) (dLoad .z agg_69 (.t .z) rfl) (lG .z5 (decide_eq_true h1) (dLen (at_ := #[69]) (slOwn .z1) rfl und_69 (.t .z)) (lG .z6 (decide_eq_true h1) (dLt (.t .z5) (.t .z)) ?_))))))
   exact lR (dPickT (.t .z7) (decide_eq_true h1) (.t .z)) (lAK .z (.k (.k (.k (.k (.k (.k (.k (.k (.k (.k (.k (.d (Keep.refl _))))))))))))) (lKeep (.k .n) (lNil (xCode (cRet (rLeave hD (lvRet (rs := [.tmp 4]) rfl (.t .z .n) () rfl (.c .z (.c .z .nil)))))))))
  ·refine lPass rfl .z (nbT (decide_eq_false h1)) rfl (lPass rfl .z (nbT (decide_eq_false h1)) rfl (lPass rfl .z (nbT (decide_eq_false h1)) rfl (lPass rfl .z (nbT (decide_eq_false h1)) rfl (lPass rfl .z (nbT (decide_eq_false h1)) rfl (lPass rfl .z (nbT (decide_eq_false h1)) rfl (lPass rfl .z (nbT (decide_eq_false h1)) rfl (lR (dPickF (.t .z) (decide_eq_false h1) (.c rfl)) (lAK .z (.k (.k (.k (.k (.d (Keep.refl _)))))) ?_))))))))
   exact lKeep (.k .n) (lNil (xCode (cRet (rLeave hD (lvRet (rs := [.tmp 4]) rfl (.t .z .n) () rfl (.c .z (.c .z .nil)))))))

-- (*greenscreen/plane.Plane).Point
def plane_Plane_Point_m (a0 : plane_Plane) (a1 : Int) : Option (plane_Plane × Bool) := (plane_Plane_has_m a0 a1).bind fun o1 => (if (!o1) = true then some (a0, false) else some ((⟨a0.f_size, a0.f_cells, a1⟩ : plane_Plane), true))
theorem plane_Plane_Point_c (a0 : plane_Plane) (a1 : Int) (b0_0 : Nat) (v0_1 : Value) : Con Tryd.prog 70 #[.pointer (some ⟨b0_0, 0, none⟩), .int .i64 a1] [.blk b0_0 [.int .i64 a0.f_size.f_Rows, .int .i64 a0.f_size.f_Cols, v0_1, .int .i64 a0.f_cursor] 71, .own v0_1 50 k_api_Cell a0.f_cells] (plane_Plane_Point_m a0 a1) (fun (o : plane_Plane × Bool) (x : Unit) => .bool o.2) (fun (o : plane_Plane × Bool) (x : Unit) => [.blk b0_0 [.int .i64 o.1.f_size.f_Rows, .int .i64 o.1.f_size.f_Cols, v0_1, .int .i64 o.1.f_cursor] 71, .own v0_1 50 k_api_Cell o.1.f_cells]) := by
  unfold plane_Plane_Point_m
  refine con (args := [.pointer (some ⟨b0_0, 0, none⟩), .int .i64 a1]) Tryd.func70 rfl 13 rfl (.c (.c .n)) rfl fun c hD hrn => ?_
  refine cSeq (cRegion (lR (dAssign (.c rfl)) (lNil (xCode (cSeq (cSeq (cRegion (lM .z1 ?_))))))))
  refine lM .z3 (lCall fok_32 (.c (.t .z1) (.c (.t .z) .n)) (plane_Plane_has_c a0 a1 b0_0 v0_1) (.c .z (.c .z .n)) rfl rfl fun o1 x2 h3 => ?_)
  refine lR (dNot (.t .z)) (lKeep (.k (.d (.d (.d (.k (.k (.k .n))))))) (lNil (xCode (cCondB (.t .z) (fun h4 => ?_) (fun h4 => ?_)))))
  ·exact cSeq (cRegion (lRdK (dAssign (.c rfl)) (.k (.d (Keep.refl _))) rfl rfl (lKeep (.k (.d (.k (.k .n)))) (lNil (xCode (cRet (rLeave hD (lvRet (rs := [.tmp 4]) rfl (.t .z .n) () rfl (.c .z (.c .z .nil))))))))))
  ·refine cSkip (xCode (cSeq (cRegion (lM .z2 (lM .z4 (lR (dNil (.t .z1)) (lR (dFld fld_71_2 (by decide) (.t .z) rfl) (lChU (uStore .z siz_3 rfl .z3 (.t .z) (.t .z2)) ?_))))))))
   refine lKeep (.d (.d (.d (.d (.d (.k .n)))))) (lNil (xCode (cSeq (cRegion (lRdK (dAssign (.c rfl)) (.d (Keep.refl _)) rfl rfl (lNil (xCode (cRet ?_))))))))
   exact rLeave hD (lvRet (rs := [.tmp 4]) rfl (.t .z .n) () rfl (.c .z (.c .z .nil)))

-- greenscreen/caret.to
def caret_to_m (a0 : plane_Plane) (a1 : Int) : Option (plane_Plane × Int) := (plane_Plane_Point_m a0 a1).bind fun o1 => some (o1.1, a1)
theorem caret_to_c (a0 : plane_Plane) (a1 : Int) (b0_0 : Nat) (v0_1 : Value) : Con Tryd.prog 50 #[.pointer (some ⟨b0_0, 0, none⟩), .int .i64 a1] [.blk b0_0 [.int .i64 a0.f_size.f_Rows, .int .i64 a0.f_size.f_Cols, v0_1, .int .i64 a0.f_cursor] 71, .own v0_1 50 k_api_Cell a0.f_cells] (caret_to_m a0 a1) (fun (o : plane_Plane × Int) (x : Unit) => .int .i64 o.2) (fun (o : plane_Plane × Int) (x : Unit) => [.blk b0_0 [.int .i64 o.1.f_size.f_Rows, .int .i64 o.1.f_size.f_Cols, v0_1, .int .i64 o.1.f_cursor] 71, .own v0_1 50 k_api_Cell o.1.f_cells]) := by
  unfold caret_to_m
  refine con (args := [.pointer (some ⟨b0_0, 0, none⟩), .int .i64 a1]) Tryd.func50 rfl 9 rfl (.c (.c .n)) rfl fun c hD hrn => ?_
  refine cSeq (cRegion (lR (dAssign (.c rfl)) (lNil (xCode (cSeq (cRegion (lM .z1 (lM .z3 ?_))))))))
  refine lCallN fok_70 (.c (.t .z1) (.c (.t .z) .n)) (plane_Plane_Point_c a0 a1 b0_0 v0_1) (.c .z (.c .z .n)) rfl fun o1 x2 h3 => ?_
  refine lKeep (.d (.d (.k (.d (.k .n))))) (lNil (xCode (cSeq (cRegion (lM .z1 (lAK .z (.k (.d (Keep.refl _))) (lKeep (.k .n) (lNil ?_))))))))
  exact xCode (cRet (rLeave hD (lvRet (rs := [.tmp 4]) rfl (.t .z .n) () rfl (.c .z (.c .z .nil)))))

-- (*greenscreen/plane.Plane).At
def plane_Plane_At_m (a0 : plane_Plane) (a1 : Int) : Option (api_Cell) := (plane_Plane_has_m a0 a1).bind fun o2 => (if (!o2) = true then some (⟨0, false, false, 0, 0⟩ : api_Cell) else (ix a0.f_cells a1).bind fun y6 => some y6)
theorem plane_Plane_At_c (a0 : plane_Plane) (a1 : Int) (b0_0 : Nat) (v0_1 : Value) : Con Tryd.prog 18 #[.pointer (some ⟨b0_0, 0, none⟩), .int .i64 a1] [.blk b0_0 [.int .i64 a0.f_size.f_Rows, .int .i64 a0.f_size.f_Cols, v0_1, .int .i64 a0.f_cursor] 71, .own v0_1 50 k_api_Cell a0.f_cells] (plane_Plane_At_m a0 a1) (fun (o : api_Cell) (x : Unit) => .agg #[vB o.f_Byte, .bool o.f_GE, .bool o.f_Start, vB o.f_Light, vB o.f_Color]) (fun (o : api_Cell) (x : Unit) => [.blk b0_0 [.int .i64 a0.f_size.f_Rows, .int .i64 a0.f_size.f_Cols, v0_1, .int .i64 a0.f_cursor] 71, .own v0_1 50 k_api_Cell a0.f_cells]) := by
  unfold plane_Plane_At_m
  refine con (args := [.pointer (some ⟨b0_0, 0, none⟩), .int .i64 a1]) Tryd.func18 rfl 17 rfl (.c (.c .n)) rfl fun c hD hrn => ?_
  refine cSeq (cRegion (lCh (cAlloc (cs := [vB 0, .bool false, .bool false, vB 0, vB 0]) zer_50 rfl) rfl rfl fun b1 => ?_))
  refine lNil (xCode (cSeq (cSeq (cRegion (lM .z1 (lM .z3 (lCall fok_32 (.c (.t .z1) (.c (.t .z) .n)) (plane_Plane_has_c a0 a1 b0_0 v0_1) (.c .z1 (.c .z1 .n)) rfl rfl fun o2 x3 h4 => ?_)))))))
  refine lR (dNot (.t .z)) (lKeep (.k (.d (.d (.d (.k (.k (.k .n))))))) (lNil (xCode (cCondB (.t .z) (fun h5 => ?_) (fun h5 => ?_)))))
  ·refine cSeq (cRegion (lR (dBuild (cs := [vB 0, .bool false, .bool false, vB 0, vB 0]) zer_50 rfl plc_50 .n rfl) (lChU (uStoreA (us := [vB 0, .bool false, .bool false, vB 0, vB 0]) (cs' := [vB 0, .bool false, .bool false, vB 0, vB 0]) .z2 siz_50 rfl (by intro u hu; simp only [List.mem_cons, List.not_mem_nil, or_false] at hu; rcases hu with rfl | rfl | rfl | rfl | rfl <;> first | rfl | assumption) rfl (by simp) (.t .z2) (.t .z)) (lKeep (.d (.d (.k (.k (.k .n))))) (lNil (xCode ?_))))))
   exact cRet (rLeave hD (lvRet (rs := [.cell 4 50]) rfl (.a .z .z2 agg_50 siz_50 .n) () rfl (.c .z (.c .z .nil))))
  ·refine cSkip (xCode (cSeq (cRegion (lM .z2 (lR (dNil (.t .z)) (lR (dFld fld_71_1 (by decide) (.t .z) rfl) (lR (dLoad .z agg_69 (.t .z) rfl) (lM .z7 ?_))))))))
   refine lIx fun y6 h7 h8 => ?_
   refine lR (dIxAddr (slOwn .z1) und_69 siz_50 (.t .z1) (.t .z) h7 h8) (lR (dLoadEA (us := [vB y6.f_Byte, .bool y6.f_GE, .bool y6.f_Start, vB y6.f_Light, vB y6.f_Color]) (slOwn .z1) agg_50 siz_50 rfl (.t .z) h8 (fun _ _ h => by cases h; rfl)) ?_)
   refine lChU (uStoreA (us := [vB y6.f_Byte, .bool y6.f_GE, .bool y6.f_Start, vB y6.f_Light, vB y6.f_Color]) (cs' := [vB y6.f_Byte, .bool y6.f_GE, .bool y6.f_Start, vB y6.f_Light, vB y6.f_Color]) .z2 siz_50 rfl (by intro u hu; simp only [List.mem_cons, List.not_mem_nil, or_false] at hu; rcases hu with rfl | rfl | rfl | rfl | rfl <;> first | rfl | assumption) rfl (by simp) (.t .z8) (.t .z)) (lKeep (.d (.d (.d (.d (.d (.d (.d (.d (.k .n))))))))) (lNil ?_))
   exact xCode (cRet (rLeave hD (lvRet (rs := [.cell 4 50]) rfl (.a .z .z2 agg_50 siz_50 .n) () rfl (.c .z (.c .z .nil)))))

-- (*greenscreen/plane.Plane).Size
def plane_Plane_Size_m (a0 : plane_Plane) : Option (api_Size) := some a0.f_size
theorem plane_Plane_Size_c (a0 : plane_Plane) (b0_0 : Nat) (v0_1 : Value) : Con Tryd.prog 57 #[.pointer (some ⟨b0_0, 0, none⟩)] [.blk b0_0 [.int .i64 a0.f_size.f_Rows, .int .i64 a0.f_size.f_Cols, v0_1, .int .i64 a0.f_cursor] 71, .own v0_1 50 k_api_Cell a0.f_cells] (plane_Plane_Size_m a0) (fun (o : api_Size) (x : Unit) => .agg #[.int .i64 o.f_Rows, .int .i64 o.f_Cols]) (fun (o : api_Size) (x : Unit) => [.blk b0_0 [.int .i64 a0.f_size.f_Rows, .int .i64 a0.f_size.f_Cols, v0_1, .int .i64 a0.f_cursor] 71, .own v0_1 50 k_api_Cell a0.f_cells]) := by
  unfold plane_Plane_Size_m
  refine con (args := [.pointer (some ⟨b0_0, 0, none⟩)]) Tryd.func57 rfl 7 rfl (.c .n) rfl fun c hD hrn => ?_
  refine cSeq (cRegion (lCh (cAlloc (cs := [.int .i64 0, .int .i64 0]) zer_34 rfl) rfl rfl fun b1 => ?_))
  refine lNil (xCode (cSeq (cRegion (lM .z1 (lR (dNil (.t .z)) (lR (dFld fld_71_0 (by decide) (.t .z) rfl) (lR (dLoadA (us := [.int .i64 a0.f_size.f_Rows, .int .i64 a0.f_size.f_Cols]) .z1 agg_34 siz_34 rfl (.t .z) rfl) (lChU (uStoreA (us := [.int .i64 a0.f_size.f_Rows, .int .i64 a0.f_size.f_Cols]) (cs' := [.int .i64 a0.f_size.f_Rows, .int .i64 a0.f_size.f_Cols]) .z siz_34 rfl (by intro u hu; simp only [List.mem_cons, List.not_mem_nil, or_false] at hu; rcases hu with rfl | rfl <;> first | rfl | assumption) rfl (by simp) (.t .z4) (.t .z)) ?_))))))))
  exact lKeep (.d (.d (.d (.d (.k .n))))) (lNil (xCode (cRet (rLeave hD (lvRet (rs := [.cell 2 34]) rfl (.a .z .z agg_34 siz_34 .n) () rfl (.c .z1 (.c .z1 .nil)))))))

-- (*greenscreen/plane.Plane).Len
def plane_Plane_Len_m (a0 : plane_Plane) : Option (Int) := some (a0.f_cells.length : Int)
theorem plane_Plane_Len_c (a0 : plane_Plane) (b0_0 : Nat) (v0_1 : Value) : Con Tryd.prog 58 #[.pointer (some ⟨b0_0, 0, none⟩)] [.blk b0_0 [.int .i64 a0.f_size.f_Rows, .int .i64 a0.f_size.f_Cols, v0_1, .int .i64 a0.f_cursor] 71, .own v0_1 50 k_api_Cell a0.f_cells] (plane_Plane_Len_m a0) (fun (o : Int) (x : Unit) => .int .i64 o) (fun (o : Int) (x : Unit) => [.blk b0_0 [.int .i64 a0.f_size.f_Rows, .int .i64 a0.f_size.f_Cols, v0_1, .int .i64 a0.f_cursor] 71, .own v0_1 50 k_api_Cell a0.f_cells]) := by
  unfold plane_Plane_Len_m
  refine con (args := [.pointer (some ⟨b0_0, 0, none⟩)]) Tryd.func58 rfl 8 rfl (.c .n) rfl fun c hD hrn => ?_
  refine cSeq (cRegion (lR (dAssign (.c rfl)) (lNil (xCode (cSeq (cRegion (lM .z1 (lR (dNil (.t .z)) ?_))))))))
  refine lR (dFld fld_71_1 (by decide) (.t .z) rfl) (lR (dLoad .z agg_69 (.t .z) rfl) (lR (dLen (at_ := #[69]) (slOwn .z1) rfl und_69 (.t .z)) (lAK .z (.k (.k (.k (.k (.k (.d (Keep.refl _))))))) (lKeep (.k .n) (lNil (xCode (cRet (rLeave hD ?_))))))))
  exact lvRet (rs := [.tmp 2]) rfl (.t .z .n) () rfl (.c .z (.c .z .nil))

-- greenscreen/addr.Move
def addr_Move_m (a0 : api_Size) (a1 : Int) (a2 : Int) : Option (Int) := (addr_Cells_m a0).bind fun o2 => (if o2 = 0 then some 0 else (if o2 ≠ 0 then (if o2 ≠ 0 then (if o2 ≠ 0 then (if o2 ≠ 0 then some (Int.tmod (w64 ((Int.tmod (w64 ((Int.tmod a1 o2) + (Int.tmod a2 o2))) o2) + o2)) o2) else none) else none) else none) else none))
theorem addr_Move_c (a0 : api_Size) (a1 : Int) (a2 : Int) : Con Tryd.prog 75 #[.agg #[.int .i64 a0.f_Rows, .int .i64 a0.f_Cols], .int .i64 a1, .int .i64 a2] [] (addr_Move_m a0 a1 a2) (fun (o : Int) (x : Unit) => .int .i64 o) (fun (o : Int) (x : Unit) => []) := by
  unfold addr_Move_m
  refine con (args := [.agg #[.int .i64 a0.f_Rows, .int .i64 a0.f_Cols], .int .i64 a1, .int .i64 a2]) Tryd.func75 rfl 25 rfl (.c (.c (.c .n))) rfl fun c hD hrn => ?_
  refine cSeq (cRegion (lCh (cBox (cs := [.int .i64 a0.f_Rows, .int .i64 a0.f_Cols]) (.t .z) rfl) rfl rfl fun b1 => ?_))
  refine lR (dAssign (.c rfl)) (lKeep (.k (.k (.d (.k (.k .n))))) (lNil (xCode (cSeq (cRegion (lR (dLoadA (us := [.int .i64 a0.f_Rows, .int .i64 a0.f_Cols]) .z agg_34 siz_34 rfl (.t .z1) rfl) (lCall fok_21 (.c (.t .z) .n) (addr_Cells_c a0) .n rfl rfl fun o2 x3 h4 => ?_)))))))
  refine lA .z (lKeep (.k (.d (.d (.k (.d (.k (.k .n))))))) (lNil (xCode (cSeq (cSeq (cRegion (lM .z (lR (dEq (.t .z) (.c rfl)) ?_))))))))
  refine lKeep (.k (.d (.k (.k (.k (.k .n)))))) (lNil (xCode (cCond (.t .z) (fun h5 => ?_) (fun h5 => ?_))))
  ·exact cSeq (cRegion (lRdK (dAssign (.c rfl)) (.k (.k (.d (Keep.refl _)))) rfl rfl (lKeep (.k (.d (.k (.k (.k .n))))) (lNil (xCode (cRet (rLeave hD (lvRet (rs := [.tmp 6]) rfl (.t .z .n) () rfl .nil))))))))
  ·refine cSkip (xCode (cSeq (cRegionM [] [(0, .early), (1, .early), (2, .early), (3, .early), (4, .early), (5, .early), (6, .early), (7, .early), (8, .early), (9, .early), (10, .early), (11, .early), (12, .early), (13, .early)] mixed (by kernel_rfl) (.c .z .nil) (.c .n) (mRd rfl rfl (fun _ _ _ => dMove (.t .z3)) rfl rfl ?_))))
   refine mRd rfl rfl (fun _ _ _ => dMove (.t .z2)) rfl rfl ?_
   refine mGuard fun h6 => ?_
   refine mRd rfl rfl (fun _ _ _ => dRem (.t .z1) (.t .z) h6) rfl rfl ?_
   refine mRd rfl rfl (fun _ _ _ => dMove (.t .z7)) rfl rfl ?_
   refine mRd rfl rfl (fun _ _ _ => dMove (.t .z5)) rfl rfl ?_
   refine mGuard fun h7 => ?_
   refine mRd rfl rfl (fun _ _ _ => dRem (.t .z1) (.t .z) h7) rfl rfl ?_
   refine mRd rfl rfl (fun _ _ _ => dAddI (.t .z3) (.t .z)) rfl rfl ?_
   refine mRd rfl rfl (fun _ _ _ => dMove (.t .z8)) rfl rfl ?_
   refine mGuard fun h8 => ?_
   refine mRd rfl rfl (fun _ _ _ => dRem (.t .z1) (.t .z) h8) rfl rfl ?_
   refine mRd rfl rfl (fun _ _ _ => dMove (.t .z10)) rfl rfl ?_
   refine mRd rfl rfl (fun _ _ _ => dAddI (.t .z1) (.t .z)) rfl rfl ?_
   refine mRd rfl rfl (fun _ _ _ => dMove (.t .z12)) rfl rfl ?_
   refine mGuard fun h9 => ?_
   refine mRd rfl rfl (fun _ _ _ => dRem (.t .z1) (.t .z) h9) rfl rfl ?_
   refine mRdK rfl rfl (fun _ _ _ => dAssign (.t .z)) (.k (.k (.k (.k (.k (.k (.k (.k (.k (.k (.k (.k (.k (.k (.k (.d (Keep.refl _))))))))))))))))) rfl rfl ?_
   exact mKeep (.k .n) (mNil (xCode (cRet (rLeave hD (lvRet (rs := [.tmp 6]) rfl (.t .z .n) () rfl .nil)))))

-- greenscreen/field.look
def field_look_l1 (K : Nat) (a0 : plane_Plane) (a1 : Int) (a2 : Int) (o8 : (Int)) : Nat → (Int) → Option (Sum (Unit) (Int))
  | 0, _ => none
  | n + 1, s11 => (if s11 < o8 then (plane_Plane_Size_m a0).bind fun o17 => (addr_Move_m o17 a1 (w64 (s11 * a2))).bind fun o20 => (plane_Plane_At_m a0 o20).bind fun o23 => (if o23.f_Start = true then some (Sum.inr o20) else (field_look_l1 K a0 a1 a2 o8 n) (w64 (s11 + 1))) else some (Sum.inl ()))
def field_look_m (K : Nat) (a0 : plane_Plane) (a1 : Int) (a2 : Int) : Option (Int) := ((if a1 < 0 then some true else (plane_Plane_Len_m a0).bind fun o2 => some (decide (a1 ≥ o2)))).bind fun (s5 : Bool) => (if s5 = true then some (-1) else (plane_Plane_Len_m a0).bind fun o8 => (field_look_l1 K a0 a1 a2 o8 K 0).bind (onS fun (s27 : Unit) => some (-1)))
theorem field_look_c (K : Nat) (a0 : plane_Plane) (a1 : Int) (a2 : Int) (b0_0 : Nat) (v0_1 : Value) : Con Tryd.prog 89 #[.pointer (some ⟨b0_0, 0, none⟩), .int .i64 a1, .int .i64 a2] [.blk b0_0 [.int .i64 a0.f_size.f_Rows, .int .i64 a0.f_size.f_Cols, v0_1, .int .i64 a0.f_cursor] 71, .own v0_1 50 k_api_Cell a0.f_cells] (field_look_m K a0 a1 a2) (fun (o : Int) (x : Unit) => .int .i64 o) (fun (o : Int) (x : Unit) => [.blk b0_0 [.int .i64 a0.f_size.f_Rows, .int .i64 a0.f_size.f_Cols, v0_1, .int .i64 a0.f_cursor] 71, .own v0_1 50 k_api_Cell a0.f_cells]) := by
  unfold field_look_m
  refine con (args := [.pointer (some ⟨b0_0, 0, none⟩), .int .i64 a1, .int .i64 a2]) Tryd.func89 rfl 35 rfl (.c (.c (.c .n))) rfl fun c hD hrn => ?_
  refine cSeq (cRegion (lR (dAssign (.c rfl)) (lNil (xCode (cSeq (cSeq (cJoin (S := Bool) (X := Unit) (fun (s : Bool) (x : Unit) => [(16, .bool s), (6, .int .i64 0), (0, .pointer (some ⟨b0_0, 0, none⟩)), (1, .int .i64 a1), (2, .int .i64 a2)]) (fun (s : Bool) (x : Unit) => [.blk b0_0 [.int .i64 a0.f_size.f_Rows, .int .i64 a0.f_size.f_Cols, v0_1, .int .i64 a0.f_cursor] 71, .own v0_1 50 k_api_Cell a0.f_cells]) ?_ (fun s5 x6 => ?_))))))))
  ·refine cRegion (lM .z2 (lR (dLt (.t .z) (.c rfl)) (lM .z (lCase (fun h1 => ?_) (fun h1 => ?_)))))
   ·exact lPass rfl .z (nbF (decide_eq_true h1)) rfl (lPass rfl .z (nbF (decide_eq_true h1)) rfl (lPass rfl .z (nbF (decide_eq_true h1)) rfl (lPass rfl .z (nbF (decide_eq_true h1)) rfl (lR (dPickT (.t .z) (decide_eq_true h1) (.c rfl)) (lKeep (.k (.d (.d (.d (.k (.k (.k (.k .n)))))))) (lNil (xJoin true () (.c .z (.c .z1 (.c .z2 (.c .z3 (.c .z4 .n))))) (.c .z (.c .z .nil)))))))))
   ·refine lG .z (decide_eq_false h1) (dMove (.t .z5)) (lG .z1 (decide_eq_false h1) (dMove (.t .z5)) (lCallG rfl .z2 (decide_eq_false h1) fok_58 (.c (.t .z) .n) (plane_Plane_Len_c a0 b0_0 v0_1) (.c .z (.c .z .n)) rfl rfl fun o2 x3 h4 => ?_))
    exact lG .z3 (decide_eq_false h1) (dGe (.t .z2) (.t .z)) (lR (dPickF (.t .z4) (decide_eq_false h1) (.t .z)) (lKeep (.k (.d (.d (.d (.d (.d (.d (.d (.k (.k (.k (.k .n)))))))))))) (lNil (xJoin (decide (a1 ≥ o2)) () (.c .z (.c .z1 (.c .z2 (.c .z3 (.c .z4 .n))))) (.c .z (.c .z .nil))))))
  ·refine xCode (cCondB (.t .z) (fun h7 => ?_) (fun h7 => ?_))
   ·exact cSeq (cRegion (lRdK (dAssign (.c rfl)) (.k (.d (Keep.refl _))) rfl rfl (lKeep (.k (.d (.k (.k (.k .n))))) (lNil (xCode (cRet (rLeave hD (lvRet (rs := [.tmp 6]) rfl (.t .z .n) () rfl (.c .z (.c .z .nil))))))))))
   ·refine cSkip (xCode (cSeq (cSeq (cRegion (lM .z2 (lCall fok_58 (.c (.t .z) .n) (plane_Plane_Len_c a0 b0_0 v0_1) (.c .z (.c .z .n)) rfl rfl fun o8 x9 h10 => ?_))))))
    refine lR (dMove (.c rfl)) (lKeep (.k (.k (.d (.d (.k (.k (.k (.k .n)))))))) (lNil (xCode (cLoopR (S := Int) (X := Unit) (S' := Unit) (X' := Unit) (field_look_l1 K a0 a1 a2 o8) (fun (s : Int) (x : Unit) => [(19, .int .i64 s), (18, .int .i64 o8), (6, .int .i64 0), (0, .pointer (some ⟨b0_0, 0, none⟩)), (1, .int .i64 a1), (2, .int .i64 a2)]) (fun (s : Int) (x : Unit) => [.blk b0_0 [.int .i64 a0.f_size.f_Rows, .int .i64 a0.f_size.f_Cols, v0_1, .int .i64 a0.f_cursor] 71, .own v0_1 50 k_api_Cell a0.f_cells]) (fun (s : Unit) (x : Unit) => [(6, .int .i64 0)]) (fun (s : Unit) (x : Unit) => [.blk b0_0 [.int .i64 a0.f_size.f_Rows, .int .i64 a0.f_size.f_Cols, v0_1, .int .i64 a0.f_cursor] 71, .own v0_1 50 k_api_Cell a0.f_cells]) K 0 () (.c .z (.c .z1 (.c .z2 (.c .z3 (.c .z4 (.c .z5 .n)))))) (.c .z (.c .z .nil)) (fun _ => rfl) (fun n13 I14 h15 s11 x12 => ?_) (fun s27 x28 => ?_)))))
    ·rw [field_look_l1]
     refine cSeq (cRegion (lR (dLt (.t .z) (.t .z1)) (lNil (xCode (cSeq (cCond (.t .z) (fun h16 => ?_) (fun h16 => ?_)))))))
     ·refine cSkip (xCode (cSeq (cBlock (cSeq (cRegion (lM .z1 (lA .z (lNil ?_))))))))
      refine xCode (cSeq (cRegion (lM .z6 (lCall fok_57 (.c (.t .z) .n) (plane_Plane_Size_c a0 b0_0 v0_1) (.c .z (.c .z .n)) rfl rfl fun o17 x18 h19 => ?_))))
      refine lM .z9 (lM .z3 (lM .z12 (lR (dMulI (.t .z1) (.t .z)) (lCall fok_75 (.c (.t .z4) (.c (.t .z3) (.c (.t .z) .n))) (addr_Move_c o17 a1 _) .n rfl rfl fun o20 x21 h22 => ?_))))
      refine lA .z (lNil (xCode (cSeq (cRegion (lM .z14 (lM .z1 (lCall fok_18 (.c (.t .z1) (.c (.t .z) .n)) (plane_Plane_At_c a0 o20 b0_0 v0_1) (.c .z (.c .z .n)) rfl rfl fun o23 x24 h25 => ?_)))))))
      refine lR (dField (u := .bool o23.f_Start) fld_50_2 (.t .z) rfl) (lNil (xCode (cCondB (.t .z) (fun h26 => ?_) (fun h26 => ?_))))
      ·refine cSeq (cRegion (lM .z4 (lAK .z (.k (.k (.k (.k (.k (.k (.k (.k (.k (.k (.k (.k (.k (.k (.k (.k (.k (.k (.d (Keep.refl _)))))))))))))))))))) (lNil (xCode (cRet (rInner (rLeave hD ?_))))))))
       exact lvRet (rs := [.tmp 6]) rfl (.t .z .n) () rfl (.c .z (.c .z .nil))
      ·exact cSkip (xBlock (xCode (cRegion (lR (dAddI (.t .z15) (.c rfl)) (lRdK (dMove (.t .z)) (.k (.k (.k (.k (.k (.k (.k (.k (.k (.k (.k (.k (.k (.k (.k (.k (.d (Keep.refl _)))))))))))))))))) rfl rfl (lNil (xRound h15 (w64 (s11 + 1)) () (.c .z (.c .z17 (.c .z18 (.c .z19 (.c .z20 (.c .z21 .n)))))) (.c .z (.c .z .nil)))))))))
     ·exact cExit (xOver (xOverF (xBreakR () () (.c .z3 .n) (.c .z (.c .z .nil)))))
    ·exact xCode (cSeq (cRegion (lRdK (dAssign (.c rfl)) (.d (Keep.refl _)) rfl rfl (lNil (xCode (cRet (rLeave hD (lvRet (rs := [.tmp 6]) rfl (.t .z .n) () rfl (.c .z (.c .z .nil))))))))))

-- greenscreen/field.Before
def field_Before_m (K : Nat) (a0 : plane_Plane) (a1 : Int) : Option (Int) := (field_look_m K a0 a1 (-1)).bind fun o1 => some o1
theorem field_Before_c (K : Nat) (a0 : plane_Plane) (a1 : Int) (b0_0 : Nat) (v0_1 : Value) : Con Tryd.prog 73 #[.pointer (some ⟨b0_0, 0, none⟩), .int .i64 a1] [.blk b0_0 [.int .i64 a0.f_size.f_Rows, .int .i64 a0.f_size.f_Cols, v0_1, .int .i64 a0.f_cursor] 71, .own v0_1 50 k_api_Cell a0.f_cells] (field_Before_m K a0 a1) (fun (o : Int) (x : Unit) => .int .i64 o) (fun (o : Int) (x : Unit) => [.blk b0_0 [.int .i64 a0.f_size.f_Rows, .int .i64 a0.f_size.f_Cols, v0_1, .int .i64 a0.f_cursor] 71, .own v0_1 50 k_api_Cell a0.f_cells]) := by
  unfold field_Before_m
  refine con (args := [.pointer (some ⟨b0_0, 0, none⟩), .int .i64 a1]) Tryd.func73 rfl 8 rfl (.c (.c .n)) rfl fun c hD hrn => ?_
  refine cSeq (cRegion (lR (dAssign (.c rfl)) (lNil (xCode (cSeq (cRegion (lM .z1 (lM .z3 ?_))))))))
  refine lCall fok_89 (.c (.t .z1) (.c (.t .z) (.c (.c rfl) .n))) (field_look_c K a0 a1 _ b0_0 v0_1) (.c .z (.c .z .n)) rfl rfl fun o1 x2 h3 => ?_
  exact lAK .z (.k (.k (.k (.d (Keep.refl _))))) (lKeep (.k .n) (lNil (xCode (cRet (rLeave hD (lvRet (rs := [.tmp 4]) rfl (.t .z .n) () rfl (.c .z (.c .z .nil))))))))

-- greenscreen/field.After
def field_After_m (K : Nat) (a0 : plane_Plane) (a1 : Int) : Option (Int) := ((if a1 < 0 then some true else (plane_Plane_Len_m a0).bind fun o2 => some (decide (a1 ≥ o2)))).bind fun (s5 : Bool) => (if s5 = true then some (-1) else (plane_Plane_Size_m a0).bind fun o8 => (addr_Move_m o8 a1 1).bind fun o11 => (field_look_m K a0 o11 1).bind fun o14 => some o14)
theorem field_After_c (K : Nat) (a0 : plane_Plane) (a1 : Int) (b0_0 : Nat) (v0_1 : Value) : Con Tryd.prog 90 #[.pointer (some ⟨b0_0, 0, none⟩), .int .i64 a1] [.blk b0_0 [.int .i64 a0.f_size.f_Rows, .int .i64 a0.f_size.f_Cols, v0_1, .int .i64 a0.f_cursor] 71, .own v0_1 50 k_api_Cell a0.f_cells] (field_After_m K a0 a1) (fun (o : Int) (x : Unit) => .int .i64 o) (fun (o : Int) (x : Unit) => [.blk b0_0 [.int .i64 a0.f_size.f_Rows, .int .i64 a0.f_size.f_Cols, v0_1, .int .i64 a0.f_cursor] 71, .own v0_1 50 k_api_Cell a0.f_cells]) := by
  unfold field_After_m
  refine con (args := [.pointer (some ⟨b0_0, 0, none⟩), .int .i64 a1]) Tryd.func90 rfl 19 rfl (.c (.c .n)) rfl fun c hD hrn => ?_
  refine cSeq (cRegion (lR (dAssign (.c rfl)) (lNil (xCode (cSeq (cSeq (cJoin (S := Bool) (X := Unit) (fun (s : Bool) (x : Unit) => [(12, .bool s), (4, .int .i64 0), (0, .pointer (some ⟨b0_0, 0, none⟩)), (1, .int .i64 a1)]) (fun (s : Bool) (x : Unit) => [.blk b0_0 [.int .i64 a0.f_size.f_Rows, .int .i64 a0.f_size.f_Cols, v0_1, .int .i64 a0.f_cursor] 71, .own v0_1 50 k_api_Cell a0.f_cells]) ?_ (fun s5 x6 => ?_))))))))
  ·refine cRegion (lM .z2 (lR (dLt (.t .z) (.c rfl)) (lM .z (lCase (fun h1 => ?_) (fun h1 => ?_)))))
   ·exact lPass rfl .z (nbF (decide_eq_true h1)) rfl (lPass rfl .z (nbF (decide_eq_true h1)) rfl (lPass rfl .z (nbF (decide_eq_true h1)) rfl (lPass rfl .z (nbF (decide_eq_true h1)) rfl (lR (dPickT (.t .z) (decide_eq_true h1) (.c rfl)) (lKeep (.k (.d (.d (.d (.k (.k (.k .n))))))) (lNil (xJoin true () (.c .z (.c .z1 (.c .z2 (.c .z3 .n)))) (.c .z (.c .z .nil)))))))))
   ·refine lG .z (decide_eq_false h1) (dMove (.t .z5)) (lG .z1 (decide_eq_false h1) (dMove (.t .z5)) (lCallG rfl .z2 (decide_eq_false h1) fok_58 (.c (.t .z) .n) (plane_Plane_Len_c a0 b0_0 v0_1) (.c .z (.c .z .n)) rfl rfl fun o2 x3 h4 => ?_))
    exact lG .z3 (decide_eq_false h1) (dGe (.t .z2) (.t .z)) (lR (dPickF (.t .z4) (decide_eq_false h1) (.t .z)) (lKeep (.k (.d (.d (.d (.d (.d (.d (.d (.k (.k (.k .n))))))))))) (lNil (xJoin (decide (a1 ≥ o2)) () (.c .z (.c .z1 (.c .z2 (.c .z3 .n)))) (.c .z (.c .z .nil))))))
  ·refine xCode (cCondB (.t .z) (fun h7 => ?_) (fun h7 => ?_))
   ·exact cSeq (cRegion (lRdK (dAssign (.c rfl)) (.k (.d (Keep.refl _))) rfl rfl (lKeep (.k (.d (.k (.k .n)))) (lNil (xCode (cRet (rLeave hD (lvRet (rs := [.tmp 4]) rfl (.t .z .n) () rfl (.c .z (.c .z .nil))))))))))
   ·refine cSkip (xCode (cSeq (cRegion (lM .z2 (lM .z3 (lCall fok_57 (.c (.t .z) .n) (plane_Plane_Size_c a0 b0_0 v0_1) (.c .z (.c .z .n)) rfl rfl fun o8 x9 h10 => ?_))))))
    refine lM .z6 (lCall fok_75 (.c (.t .z1) (.c (.t .z) (.c (.c rfl) .n))) (addr_Move_c o8 a1 1) .n rfl rfl fun o11 x12 h13 => ?_)
    refine lCall fok_89 (.c (.t .z4) (.c (.t .z) (.c (.c rfl) .n))) (field_look_c K a0 o11 1 b0_0 v0_1) (.c .z (.c .z .n)) rfl rfl fun o14 x15 h16 => ?_
    exact lAK .z (.k (.k (.k (.k (.k (.k (.k (.d (Keep.refl _))))))))) (lKeep (.k .n) (lNil (xCode (cRet (rLeave hD (lvRet (rs := [.tmp 4]) rfl (.t .z .n) () rfl (.c .z (.c .z .nil))))))))

-- greenscreen/field.at
def field_at_m (K : Nat) (a0 : plane_Plane) (a1 : Int) : Option (field_Field) := (field_After_m K a0 a1).bind fun o2 => ((if (w64 ((w64 (o2 - a1)) - 1)) < 0 then (plane_Plane_Len_m a0).bind fun o6 => some (w64 ((w64 ((w64 (o2 - a1)) - 1)) + o6)) else some (w64 ((w64 (o2 - a1)) - 1)))).bind fun (s9 : Int) => (plane_Plane_At_m a0 a1).bind fun o11 => some (⟨a1, s9, o11.f_Byte &&& (63 : UInt8)⟩ : field_Field)
theorem field_at_c (K : Nat) (a0 : plane_Plane) (a1 : Int) (b0_0 : Nat) (v0_1 : Value) : Con Tryd.prog 74 #[.pointer (some ⟨b0_0, 0, none⟩), .int .i64 a1] [.blk b0_0 [.int .i64 a0.f_size.f_Rows, .int .i64 a0.f_size.f_Cols, v0_1, .int .i64 a0.f_cursor] 71, .own v0_1 50 k_api_Cell a0.f_cells] (field_at_m K a0 a1) (fun (o : field_Field) (x : Unit) => .agg #[.int .i64 o.f_Start, .int .i64 o.f_Len, vB o.f_Attr]) (fun (o : field_Field) (x : Unit) => [.blk b0_0 [.int .i64 a0.f_size.f_Rows, .int .i64 a0.f_size.f_Cols, v0_1, .int .i64 a0.f_cursor] 71, .own v0_1 50 k_api_Cell a0.f_cells]) := by
  unfold field_at_m
  refine con (args := [.pointer (some ⟨b0_0, 0, none⟩), .int .i64 a1]) Tryd.func74 rfl 26 rfl (.c (.c .n)) rfl fun c hD hrn => ?_
  refine cSeq (cRegion (lCh (cAlloc (cs := [.int .i64 0, .int .i64 0, vB 0]) zer_85 rfl) rfl rfl fun b1 => ?_))
  refine lNil (xCode (cSeq (cRegion (lM .z1 (lM .z3 (lCall fok_90 (.c (.t .z1) (.c (.t .z) .n)) (field_After_c K a0 a1 b0_0 v0_1) (.c .z1 (.c .z1 .n)) rfl rfl fun o2 x3 h4 => ?_))))))
  refine lM .z5 (lR (dSubI (.t .z1) (.t .z)) (lR (dSubI (.t .z) (.c rfl)) (lA .z (lKeep (.k (.d (.d (.d (.d (.d (.d (.k (.k (.k .n)))))))))) (lNil (xCode (cSeq (cSeq ?_))))))))
  refine cRegion (lM .z (lR (dLt (.t .z) (.c rfl)) (lKeep (.k (.d (.k (.k (.k (.k .n)))))) (lNil (xCode (cJoin (S := Int) (X := Unit) (fun (s : Int) (x : Unit) => [(5, .int .i64 s), (4, .pointer (some ⟨b1, 0, none⟩)), (0, .pointer (some ⟨b0_0, 0, none⟩)), (1, .int .i64 a1)]) (fun (s : Int) (x : Unit) => [.blk b0_0 [.int .i64 a0.f_size.f_Rows, .int .i64 a0.f_size.f_Cols, v0_1, .int .i64 a0.f_cursor] 71, .own v0_1 50 k_api_Cell a0.f_cells, .blk b1 [.int .i64 0, .int .i64 0, vB 0] 85]) ?_ (fun s9 x10 => ?_)))))))
  ·refine cCond (.t .z) (fun h5 => ?_) (fun h5 => ?_)
   ·refine cRegion (lM .z1 (lM .z4 (lCall fok_58 (.c (.t .z) .n) (plane_Plane_Len_c a0 b0_0 v0_1) (.c .z (.c .z .n)) rfl rfl fun o6 x7 h8 => ?_)))
    exact lR (dAddI (.t .z2) (.t .z)) (lAK .z (.k (.k (.k (.k (.k (.d (Keep.refl _))))))) (lKeep (.k (.d (.d (.d (.d (.d (.k (.k (.k .n))))))))) (lNil (xJoin (w64 ((w64 ((w64 (o2 - a1)) - 1)) + o6)) () (.c .z (.c .z1 (.c .z2 (.c .z3 .n)))) (.c .z (.c .z (.c .z .nil)))))))
   ·exact cSkip (xJoin (w64 ((w64 (o2 - a1)) - 1)) () (.c .z1 (.c .z2 (.c .z3 (.c .z4 .n)))) (.c .z (.c .z (.c .z .nil))))
  ·refine xCode (cSeq (cRegion (lM .z3 (lM .z1 (lM .z4 (lM .z6 (lCall fok_18 (.c (.t .z1) (.c (.t .z) .n)) (plane_Plane_At_c a0 a1 b0_0 v0_1) (.c .z (.c .z .n)) rfl rfl fun o11 x12 h13 => ?_)))))))
   refine lR (dField (u := vB o11.f_Byte) fld_50_0 (.t .z) rfl) (lR (dAndB (.t .z) (.c (v' := vB 63) rfl)) (lR (dBuild (cs := [.int .i64 a1, .int .i64 s9, vB (o11.f_Byte &&& (63 : UInt8))]) zer_85 rfl plc_85 (.c (.t .z6) (.c (.t .z5) (.c (.t .z) .n))) rfl) (lChU (uStoreA (us := [.int .i64 a1, .int .i64 s9, vB (o11.f_Byte &&& (63 : UInt8))]) (cs' := [.int .i64 a1, .int .i64 s9, vB (o11.f_Byte &&& (63 : UInt8))]) .z2 siz_85 rfl (by intro u hu; simp only [List.mem_cons, List.not_mem_nil, or_false] at hu; rcases hu with rfl | rfl | rfl <;> first | rfl | assumption) rfl (by simp) (.t .z9) (.t .z)) ?_)))
   exact lKeep (.d (.d (.d (.d (.d (.d (.d (.d (.d (.k .n)))))))))) (lNil (xCode (cRet (rLeave hD (lvRet (rs := [.cell 4 85]) rfl (.a .z .z2 agg_85 siz_85 .n) () rfl (.c .z (.c .z .nil)))))))

-- greenscreen/field.Of
def field_Of_m (K : Nat) (a0 : plane_Plane) (a1 : Int) : Option (field_Field × Bool) := (field_Before_m K a0 a1).bind fun o2 => (if o2 < 0 then some ((⟨0, 0, 0⟩ : field_Field), false) else (field_at_m K a0 o2).bind fun o6 => some (o6, true))
theorem field_Of_c (K : Nat) (a0 : plane_Plane) (a1 : Int) (b0_0 : Nat) (v0_1 : Value) : Con Tryd.prog 53 #[.pointer (some ⟨b0_0, 0, none⟩), .int .i64 a1] [.blk b0_0 [.int .i64 a0.f_size.f_Rows, .int .i64 a0.f_size.f_Cols, v0_1, .int .i64 a0.f_cursor] 71, .own v0_1 50 k_api_Cell a0.f_cells] (field_Of_m K a0 a1) (fun (o : field_Field × Bool) (x : Unit) => .tuple #[.agg #[.int .i64 o.1.f_Start, .int .i64 o.1.f_Len, vB o.1.f_Attr], .bool o.2]) (fun (o : field_Field × Bool) (x : Unit) => [.blk b0_0 [.int .i64 a0.f_size.f_Rows, .int .i64 a0.f_size.f_Cols, v0_1, .int .i64 a0.f_cursor] 71, .own v0_1 50 k_api_Cell a0.f_cells]) := by
  unfold field_Of_m
  refine con (args := [.pointer (some ⟨b0_0, 0, none⟩), .int .i64 a1]) Tryd.func53 rfl 16 rfl (.c (.c .n)) rfl fun c hD hrn => ?_
  refine cSeq (cRegion (lCh (cAlloc (cs := [.int .i64 0, .int .i64 0, vB 0]) zer_85 rfl) rfl rfl fun b1 => ?_))
  refine lR (dAssign (.c rfl)) (lNil (xCode (cSeq (cRegion (lM .z2 (lM .z4 (lCall fok_73 (.c (.t .z1) (.c (.t .z) .n)) (field_Before_c K a0 a1 b0_0 v0_1) (.c .z1 (.c .z1 .n)) rfl rfl fun o2 x3 h4 => ?_)))))))
  refine lA .z (lKeep (.k (.d (.d (.d (.k (.k (.k .n))))))) (lNil (xCode (cSeq (cSeq (cRegion (lM .z (lR (dLt (.t .z) (.c rfl)) ?_))))))))
  refine lKeep (.k (.d (.k (.k (.k (.k .n)))))) (lNil (xCode (cCond (.t .z) (fun h5 => ?_) (fun h5 => ?_))))
  ·refine cSeq (cRegion (lR (dBuild (cs := [.int .i64 0, .int .i64 0, vB 0]) zer_85 rfl plc_85 .n rfl) (lChU (uStoreA (us := [.int .i64 0, .int .i64 0, vB 0]) (cs' := [.int .i64 0, .int .i64 0, vB 0]) .z2 siz_85 rfl (by intro u hu; simp only [List.mem_cons, List.not_mem_nil, or_false] at hu; rcases hu with rfl | rfl | rfl <;> first | rfl | assumption) rfl (by simp) (.t .z4) (.t .z)) (lRdK (dAssign (.c rfl)) (.k (.k (.k (.d (Keep.refl _))))) rfl rfl (lKeep (.k (.d (.d (.k (.k (.k .n)))))) ?_)))))
   exact lNil (xCode (cRet (rLeave hD (lvRet (rs := [.cell 4 85, .tmp 5]) rfl (.a .z2 .z2 agg_85 siz_85 (.t .z .n)) () rfl (.c .z (.c .z .nil))))))
  ·refine cSkip (xCode (cSeq (cRegion (lM .z4 (lM .z2 (lCall fok_74 (.c (.t .z1) (.c (.t .z) .n)) (field_at_c K a0 o2 b0_0 v0_1) (.c .z (.c .z .n)) rfl rfl fun o6 x7 h8 => ?_))))))
   refine lChU (uStoreA (us := [.int .i64 o6.f_Start, .int .i64 o6.f_Len, vB o6.f_Attr]) (cs' := [.int .i64 o6.f_Start, .int .i64 o6.f_Len, vB o6.f_Attr]) .z2 siz_85 rfl (by intro u hu; simp only [List.mem_cons, List.not_mem_nil, or_false] at hu; rcases hu with rfl | rfl | rfl <;> first | rfl | assumption) rfl (by simp) (.t .z6) (.t .z)) (lRdK (dAssign (.c rfl)) (.k (.k (.k (.k (.k (.d (Keep.refl _))))))) rfl rfl (lKeep (.k (.d (.d (.d (.d (.d (.k .n))))))) ?_))
   exact lNil (xCode (cRet (rLeave hD (lvRet (rs := [.cell 4 85, .tmp 5]) rfl (.a .z1 .z2 agg_85 siz_85 (.t .z .n)) () rfl (.c .z (.c .z .nil))))))

-- greenscreen/attr.Protected
def attr_Protected_m (a0 : UInt8) : Option (Bool) := some (decide ((a0 &&& (32 : UInt8)) ≠ (0 : UInt8)))
theorem attr_Protected_c (a0 : UInt8) : Con Tryd.prog 68 #[vB a0] [] (attr_Protected_m a0) (fun (o : Bool) (x : Unit) => .bool o) (fun (o : Bool) (x : Unit) => []) := by
  unfold attr_Protected_m
  refine con (args := [vB a0]) Tryd.func68 rfl 6 rfl (.c .n) rfl fun c hD hrn => ?_
  refine cSeq (cRegion (lR (dAssign (.c rfl)) (lNil (xCode (cSeq (cRegion (lM .z1 (lR (dAndB (.t .z) (.c (v' := vB 32) rfl)) ?_))))))))
  exact lR (dNeB (.t .z) (.c (v' := vB 0) rfl)) (lAK .z (.k (.k (.k (.d (Keep.refl _))))) (lKeep (.k .n) (lNil (xCode (cRet (rLeave hD (lvRet (rs := [.tmp 2]) rfl (.t .z .n) () rfl .nil)))))))

-- greenscreen/caret.open
def caret_open_m (K : Nat) (a0 : plane_Plane) (a1 : Int) : Option (Bool) := (field_Of_m K a0 a1).bind fun o1 => (if o1.2 = true then (if o1.1.f_Start = a1 then (if o1.1.f_Len > 0 then (attr_Protected_m o1.1.f_Attr).bind fun o8 => some (!o8) else some false) else some false) else some false)
theorem caret_open_c (K : Nat) (a0 : plane_Plane) (a1 : Int) (b0_0 : Nat) (v0_1 : Value) : Con Tryd.prog 54 #[.pointer (some ⟨b0_0, 0, none⟩), .int .i64 a1] [.blk b0_0 [.int .i64 a0.f_size.f_Rows, .int .i64 a0.f_size.f_Cols, v0_1, .int .i64 a0.f_cursor] 71, .own v0_1 50 k_api_Cell a0.f_cells] (caret_open_m K a0 a1) (fun (o : Bool) (x : Unit) => .bool o) (fun (o : Bool) (x : Unit) => [.blk b0_0 [.int .i64 a0.f_size.f_Rows, .int .i64 a0.f_size.f_Cols, v0_1, .int .i64 a0.f_cursor] 71, .own v0_1 50 k_api_Cell a0.f_cells]) := by
  unfold caret_open_m
  refine con (args := [.pointer (some ⟨b0_0, 0, none⟩), .int .i64 a1]) Tryd.func54 rfl 31 rfl (.c (.c .n)) rfl fun c hD hrn => ?_
  refine cSeq (cRegion (lR (dAssign (.c rfl)) (lNil (xCode (cSeq (cRegion (lM .z1 (lM .z3 ?_))))))))
  refine lCall fok_53 (.c (.t .z1) (.c (.t .z) .n)) (field_Of_c K a0 a1 b0_0 v0_1) (.c .z (.c .z .n)) rfl rfl fun o1 x2 h3 => ?_
  refine lM .z (lR (dExtract (.t .z) rfl) (lR (dExtract (.t .z1) rfl) (lCh (cAlloc (cs := [.int .i64 0, .int .i64 0, vB 0]) zer_85 rfl) rfl rfl fun b4 => ?_)))
  refine lChU (uStoreA (us := [.int .i64 o1.1.f_Start, .int .i64 o1.1.f_Len, vB o1.1.f_Attr]) (cs' := [.int .i64 o1.1.f_Start, .int .i64 o1.1.f_Len, vB o1.1.f_Attr]) .z siz_85 rfl (by intro u hu; simp only [List.mem_cons, List.not_mem_nil, or_false] at hu; rcases hu with rfl | rfl | rfl <;> first | rfl | assumption) rfl (by simp) (.t .z) (.t .z2)) (lA .z1 (lKeep (.k (.k (.d (.d (.d (.d (.d (.d (.k (.d (.k .n))))))))))) (lNil (xCode (cSeq (cRegion (lM .z (lM .z ?_))))))))
  refine lCase (fun h5 => ?_) (fun h5 => ?_)
  ·refine lG .z h5 (dFld fld_85_0 (by decide) (.t .z3) rfl) (lG .z1 h5 (dLoad .z agg_3 (.t .z) rfl) (lG .z2 h5 (dMove (.t .z7)) (lG .z3 h5 (dEq (.t .z1) (.t .z)) (lR (dPickT (.t .z4) h5 (.t .z)) (lM .z (lCase (fun h6 => ?_) (fun h6 => ?_)))))))
   ·refine lG .z (decide_eq_true h6) (dFld fld_85_1 (by decide) (.t .z9) rfl) (lG .z1 (decide_eq_true h6) (dLoad .z agg_3 (.t .z) rfl) (lG .z2 (decide_eq_true h6) (dGt (.t .z) (.c rfl)) (lR (dPickT (.t .z3) (decide_eq_true h6) (.t .z)) (lM .z (lCase (fun h7 => ?_) (fun h7 => ?_))))))
    ·refine lG .z (decide_eq_true h7) (dFld fld_85_2 (by decide) (.t .z14) rfl) (lG .z1 (decide_eq_true h7) (dLoad .z agg_5 (.t .z) rfl) (lCallG rfl .z2 (decide_eq_true h7) fok_68 (.c (.t .z) .n) (attr_Protected_c _) .n rfl rfl fun o8 x9 h10 => ?_))
     exact lG .z3 (decide_eq_true h7) (dNot (.t .z)) (lR (dPickT (.t .z4) (decide_eq_true h7) (.t .z)) (lAK .z (.k (.k (.k (.k (.k (.k (.k (.k (.k (.k (.k (.k (.k (.k (.k (.k (.k (.k (.k (.k (.d (Keep.refl _)))))))))))))))))))))) (lKeep (.k .n) (lNil (xCode (cRet (rLeave hD (lvRet (rs := [.tmp 4]) rfl (.t .z .n) () rfl (.c .z1 (.c .z1 .nil))))))))))
    ·refine lPass rfl .z (nbT (decide_eq_false h7)) rfl (lPass rfl .z (nbT (decide_eq_false h7)) rfl (lPass rfl .z (nbT (decide_eq_false h7)) rfl (lPass rfl .z (nbT (decide_eq_false h7)) rfl (lR (dPickF (.t .z) (decide_eq_false h7) (.c rfl)) (lAK .z (.k (.k (.k (.k (.k (.k (.k (.k (.k (.k (.k (.k (.k (.k (.k (.k (.d (Keep.refl _)))))))))))))))))) (lKeep (.k .n) (lNil (xCode ?_))))))))
     exact cRet (rLeave hD (lvRet (rs := [.tmp 4]) rfl (.t .z .n) () rfl (.c .z1 (.c .z1 .nil))))
   ·refine lPass rfl .z (nbT (decide_eq_false h6)) rfl (lPass rfl .z (nbT (decide_eq_false h6)) rfl (lPass rfl .z (nbT (decide_eq_false h6)) rfl (lR (dPickF (.t .z) (decide_eq_false h6) (.c rfl)) (lM .z (lPass rfl .z (nbT rfl) rfl (lPass rfl .z (nbT rfl) rfl (lPass rfl .z (nbT rfl) rfl (lPass rfl .z (nbT rfl) rfl ?_))))))))
    exact lR (dPickF (.t .z) rfl (.c rfl)) (lAK .z (.k (.k (.k (.k (.k (.k (.k (.k (.k (.k (.k (.k (.k (.d (Keep.refl _))))))))))))))) (lKeep (.k .n) (lNil (xCode (cRet (rLeave hD (lvRet (rs := [.tmp 4]) rfl (.t .z .n) () rfl (.c .z1 (.c .z1 .nil)))))))))
  ·refine lPass rfl .z (nbT (Bool.eq_false_iff.mpr h5)) rfl (lPass rfl .z (nbT (Bool.eq_false_iff.mpr h5)) rfl (lPass rfl .z (nbT (Bool.eq_false_iff.mpr h5)) rfl (lPass rfl .z (nbT (Bool.eq_false_iff.mpr h5)) rfl (lR (dPickF (.t .z) (Bool.eq_false_iff.mpr h5) (.c rfl)) (lM .z (lPass rfl .z (nbT rfl) rfl (lPass rfl .z (nbT rfl) rfl (lPass rfl .z (nbT rfl) rfl ?_))))))))
   refine lR (dPickF (.t .z) rfl (.c rfl)) (lM .z (lPass rfl .z (nbT rfl) rfl (lPass rfl .z (nbT rfl) rfl (lPass rfl .z (nbT rfl) rfl (lPass rfl .z (nbT rfl) rfl (lR (dPickF (.t .z) rfl (.c rfl)) (lAK .z (.k (.k (.k (.k (.k (.k (.k (.k (.k (.d (Keep.refl _))))))))))) (lKeep (.k .n) ?_))))))))
   exact lNil (xCode (cRet (rLeave hD (lvRet (rs := [.tmp 4]) rfl (.t .z .n) () rfl (.c .z1 (.c .z1 .nil))))))

-- greenscreen/caret.by
def caret_by_m (a0 : plane_Plane) (a1 : Int) (a2 : Int) : Option (Int) := (plane_Plane_Size_m a0).bind fun o1 => (addr_Move_m o1 a1 a2).bind fun o4 => some o4
theorem caret_by_c (a0 : plane_Plane) (a1 : Int) (a2 : Int) (b0_0 : Nat) (v0_1 : Value) : Con Tryd.prog 55 #[.pointer (some ⟨b0_0, 0, none⟩), .int .i64 a1, .int .i64 a2] [.blk b0_0 [.int .i64 a0.f_size.f_Rows, .int .i64 a0.f_size.f_Cols, v0_1, .int .i64 a0.f_cursor] 71, .own v0_1 50 k_api_Cell a0.f_cells] (caret_by_m a0 a1 a2) (fun (o : Int) (x : Unit) => .int .i64 o) (fun (o : Int) (x : Unit) => [.blk b0_0 [.int .i64 a0.f_size.f_Rows, .int .i64 a0.f_size.f_Cols, v0_1, .int .i64 a0.f_cursor] 71, .own v0_1 50 k_api_Cell a0.f_cells]) := by
  unfold caret_by_m
  refine con (args := [.pointer (some ⟨b0_0, 0, none⟩), .int .i64 a1, .int .i64 a2]) Tryd.func55 rfl 12 rfl (.c (.c (.c .n))) rfl fun c hD hrn => ?_
  refine cSeq (cRegion (lR (dAssign (.c rfl)) (lNil (xCode (cSeq (cRegion (lM .z1 (lCall fok_57 (.c (.t .z) .n) (plane_Plane_Size_c a0 b0_0 v0_1) (.c .z (.c .z .n)) rfl rfl fun o1 x2 h3 => ?_))))))))
  refine lM .z4 (lM .z6 (lCall fok_75 (.c (.t .z2) (.c (.t .z1) (.c (.t .z) .n))) (addr_Move_c o1 a1 a2) .n rfl rfl fun o4 x5 h6 => ?_))
  exact lAK .z (.k (.k (.k (.k (.k (.d (Keep.refl _))))))) (lKeep (.k .n) (lNil (xCode (cRet (rLeave hD (lvRet (rs := [.tmp 6]) rfl (.t .z .n) () rfl (.c .z (.c .z .nil))))))))

-- greenscreen/caret.seek
def caret_seek_l1 (K : Nat) (a0 : plane_Plane) (a1 : Int) (a2 : Int) (o1 : (Int)) : Nat → (Int) → Option (Sum (Unit) (Int))
  | 0, _ => none
  | n + 1, s4 => (if s4 < o1 then (caret_by_m a0 a1 (w64 (s4 * a2))).bind fun o10 => (caret_open_m K a0 o10).bind fun o13 => (if o13 = true then (caret_by_m a0 o10 1).bind fun o17 => some (Sum.inr o17) else (caret_seek_l1 K a0 a1 a2 o1 n) (w64 (s4 + 1))) else some (Sum.inl ()))
def caret_seek_m (K : Nat) (a0 : plane_Plane) (a1 : Int) (a2 : Int) : Option (Int) := (plane_Plane_Len_m a0).bind fun o1 => (caret_seek_l1 K a0 a1 a2 o1 K 0).bind (onS fun (s20 : Unit) => some 0)
theorem caret_seek_c (K : Nat) (a0 : plane_Plane) (a1 : Int) (a2 : Int) (b0_0 : Nat) (v0_1 : Value) : Con Tryd.prog 51 #[.pointer (some ⟨b0_0, 0, none⟩), .int .i64 a1, .int .i64 a2] [.blk b0_0 [.int .i64 a0.f_size.f_Rows, .int .i64 a0.f_size.f_Cols, v0_1, .int .i64 a0.f_cursor] 71, .own v0_1 50 k_api_Cell a0.f_cells] (caret_seek_m K a0 a1 a2) (fun (o : Int) (x : Unit) => .int .i64 o) (fun (o : Int) (x : Unit) => [.blk b0_0 [.int .i64 a0.f_size.f_Rows, .int .i64 a0.f_size.f_Cols, v0_1, .int .i64 a0.f_cursor] 71, .own v0_1 50 k_api_Cell a0.f_cells]) := by
  unfold caret_seek_m
  refine con (args := [.pointer (some ⟨b0_0, 0, none⟩), .int .i64 a1, .int .i64 a2]) Tryd.func51 rfl 27 rfl (.c (.c (.c .n))) rfl fun c hD hrn => ?_
  refine cSeq (cRegion (lR (dAssign (.c rfl)) (lNil (xCode (cSeq (cSeq (cRegion (lM .z1 ?_))))))))
  refine lCall fok_58 (.c (.t .z) .n) (plane_Plane_Len_c a0 b0_0 v0_1) (.c .z (.c .z .n)) rfl rfl fun o1 x2 h3 => ?_
  refine lR (dMove (.c rfl)) (lKeep (.k (.k (.d (.k (.k (.k (.k .n))))))) (lNil (xCode (cLoopR (S := Int) (X := Unit) (S' := Unit) (X' := Unit) (caret_seek_l1 K a0 a1 a2 o1) (fun (s : Int) (x : Unit) => [(11, .int .i64 s), (10, .int .i64 o1), (6, .int .i64 0), (0, .pointer (some ⟨b0_0, 0, none⟩)), (1, .int .i64 a1), (2, .int .i64 a2)]) (fun (s : Int) (x : Unit) => [.blk b0_0 [.int .i64 a0.f_size.f_Rows, .int .i64 a0.f_size.f_Cols, v0_1, .int .i64 a0.f_cursor] 71, .own v0_1 50 k_api_Cell a0.f_cells]) (fun (s : Unit) (x : Unit) => [(6, .int .i64 0)]) (fun (s : Unit) (x : Unit) => [.blk b0_0 [.int .i64 a0.f_size.f_Rows, .int .i64 a0.f_size.f_Cols, v0_1, .int .i64 a0.f_cursor] 71, .own v0_1 50 k_api_Cell a0.f_cells]) K 0 () (.c .z (.c .z1 (.c .z2 (.c .z3 (.c .z4 (.c .z5 .n)))))) (.c .z (.c .z .nil)) (fun _ => rfl) (fun n6 I7 h8 s4 x5 => ?_) (fun s20 x21 => ?_)))))
  ·rw [caret_seek_l1]
   refine cSeq (cRegion (lR (dLt (.t .z) (.t .z1)) (lNil (xCode (cSeq (cCond (.t .z) (fun h9 => ?_) (fun h9 => ?_)))))))
   ·refine cSkip (xCode (cSeq (cBlock (cSeq (cRegion (lM .z1 (lA .z (lNil ?_))))))))
    refine xCode (cSeq (cRegion (lM .z6 (lM .z8 (lM .z2 (lM .z11 (lR (dMulI (.t .z1) (.t .z)) (lCall fok_55 (.c (.t .z4) (.c (.t .z3) (.c (.t .z) .n))) (caret_by_c a0 a1 _ b0_0 v0_1) (.c .z (.c .z .n)) rfl rfl fun o10 x11 h12 => ?_))))))))
    refine lA .z (lNil (xCode (cSeq (cRegion (lM .z13 (lM .z1 (lCall fok_54 (.c (.t .z1) (.c (.t .z) .n)) (caret_open_c K a0 o10 b0_0 v0_1) (.c .z (.c .z .n)) rfl rfl fun o13 x14 h15 => ?_)))))))
    refine lNil (xCode (cCondB (.t .z) (fun h16 => ?_) (fun h16 => ?_)))
    ·refine cSeq (cRegion (lM .z16 (lM .z4 (lCall fok_55 (.c (.t .z1) (.c (.t .z) (.c (.c rfl) .n))) (caret_by_c a0 o10 1 b0_0 v0_1) (.c .z (.c .z .n)) rfl rfl fun o17 x18 h19 => ?_))))
     exact lAK .z (.k (.k (.k (.k (.k (.k (.k (.k (.k (.k (.k (.k (.k (.k (.k (.k (.k (.k (.d (Keep.refl _)))))))))))))))))))) (lNil (xCode (cRet (rInner (rLeave hD (lvRet (rs := [.tmp 6]) rfl (.t .z .n) () rfl (.c .z (.c .z .nil))))))))
    ·exact cSkip (xBlock (xCode (cRegion (lR (dAddI (.t .z13) (.c rfl)) (lRdK (dMove (.t .z)) (.k (.k (.k (.k (.k (.k (.k (.k (.k (.k (.k (.k (.k (.k (.d (Keep.refl _)))))))))))))))) rfl rfl (lNil (xRound h8 (w64 (s4 + 1)) () (.c .z (.c .z15 (.c .z16 (.c .z17 (.c .z18 (.c .z19 .n)))))) (.c .z (.c .z .nil)))))))))
   ·exact cExit (xOver (xOverF (xBreakR () () (.c .z3 .n) (.c .z (.c .z .nil)))))
  ·exact xCode (cSeq (cRegion (lRdK (dAssign (.c rfl)) (.d (Keep.refl _)) rfl rfl (lNil (xCode (cRet (rLeave hD (lvRet (rs := [.tmp 6]) rfl (.t .z .n) () rfl (.c .z (.c .z .nil))))))))))

-- (*greenscreen/plane.Plane).Cursor
def plane_Plane_Cursor_m (a0 : plane_Plane) : Option (Int) := some a0.f_cursor
theorem plane_Plane_Cursor_c (a0 : plane_Plane) (b0_0 : Nat) (v0_1 : Value) : Con Tryd.prog 52 #[.pointer (some ⟨b0_0, 0, none⟩)] [.blk b0_0 [.int .i64 a0.f_size.f_Rows, .int .i64 a0.f_size.f_Cols, v0_1, .int .i64 a0.f_cursor] 71, .own v0_1 50 k_api_Cell a0.f_cells] (plane_Plane_Cursor_m a0) (fun (o : Int) (x : Unit) => .int .i64 o) (fun (o : Int) (x : Unit) => [.blk b0_0 [.int .i64 a0.f_size.f_Rows, .int .i64 a0.f_size.f_Cols, v0_1, .int .i64 a0.f_cursor] 71, .own v0_1 50 k_api_Cell a0.f_cells]) := by
  unfold plane_Plane_Cursor_m
  refine con (args := [.pointer (some ⟨b0_0, 0, none⟩)]) Tryd.func52 rfl 7 rfl (.c .n) rfl fun c hD hrn => ?_
  refine cSeq (cRegion (lR (dAssign (.c rfl)) (lNil (xCode (cSeq (cRegion (lM .z1 (lR (dNil (.t .z)) ?_))))))))
  exact lR (dFld fld_71_2 (by decide) (.t .z) rfl) (lR (dLoad .z agg_3 (.t .z) rfl) (lAK .z (.k (.k (.k (.k (.d (Keep.refl _)))))) (lKeep (.k .n) (lNil (xCode (cRet (rLeave hD (lvRet (rs := [.tmp 2]) rfl (.t .z .n) () rfl (.c .z (.c .z .nil))))))))))

-- greenscreen/caret.Tab
def caret_Tab_m (K : Nat) (a0 : plane_Plane) : Option (plane_Plane × Int) := (plane_Plane_Cursor_m a0).bind fun o1 => (caret_seek_m K a0 o1 1).bind fun o4 => (caret_to_m a0 o4).bind fun o7 => some (o7.1, o7.2)
theorem caret_Tab_c (K : Nat) (a0 : plane_Plane) (b0_0 : Nat) (v0_1 : Value) : Con Tryd.prog 37 #[.pointer (some ⟨b0_0, 0, none⟩)] [.blk b0_0 [.int .i64 a0.f_size.f_Rows, .int .i64 a0.f_size.f_Cols, v0_1, .int .i64 a0.f_cursor] 71, .own v0_1 50 k_api_Cell a0.f_cells] (caret_Tab_m K a0) (fun (o : plane_Plane × Int) (x : Unit) => .int .i64 o.2) (fun (o : plane_Plane × Int) (x : Unit) => [.blk b0_0 [.int .i64 o.1.f_size.f_Rows, .int .i64 o.1.f_size.f_Cols, v0_1, .int .i64 o.1.f_cursor] 71, .own v0_1 50 k_api_Cell o.1.f_cells]) := by
  unfold caret_Tab_m
  refine con (args := [.pointer (some ⟨b0_0, 0, none⟩)]) Tryd.func37 rfl 9 rfl (.c .n) rfl fun c hD hrn => ?_
  refine cSeq (cRegion (lR (dAssign (.c rfl)) (lNil (xCode (cSeq (cRegion (lM .z1 (lM .z2 ?_))))))))
  refine lM .z3 (lCall fok_52 (.c (.t .z) .n) (plane_Plane_Cursor_c a0 b0_0 v0_1) (.c .z (.c .z .n)) rfl rfl fun o1 x2 h3 => ?_)
  refine lCall fok_51 (.c (.t .z2) (.c (.t .z) (.c (.c rfl) .n))) (caret_seek_c K a0 o1 1 b0_0 v0_1) (.c .z (.c .z .n)) rfl rfl fun o4 x5 h6 => ?_
  refine lCall fok_50 (.c (.t .z4) (.c (.t .z) .n)) (caret_to_c a0 o4 b0_0 v0_1) (.c .z (.c .z .n)) rfl rfl fun o7 x8 h9 => ?_
  exact lAK .z (.k (.k (.k (.k (.k (.k (.d (Keep.refl _)))))))) (lKeep (.k .n) (lNil (xCode (cRet (rLeave hD (lvRet (rs := [.tmp 2]) rfl (.t .z .n) () rfl (.c .z (.c .z .nil))))))))

-- greenscreen/caret.Back
def caret_Back_m (K : Nat) (a0 : plane_Plane) : Option (plane_Plane × Int) := (plane_Plane_Cursor_m a0).bind fun o1 => (field_Of_m K a0 o1).bind fun o4 => ((if o4.2 = true then (caret_open_m K a0 o4.1.f_Start).bind fun o9 => (if o9 = true then (if o1 ≠ o4.1.f_Start then (caret_by_m a0 o4.1.f_Start 1).bind fun o14 => some (decide (o1 ≠ o14)) else some false) else some false) else some false)).bind fun (s17 : Bool) => (if s17 = true then (caret_by_m a0 o4.1.f_Start 1).bind fun o20 => (caret_to_m a0 o20).bind fun o23 => some (o23.1, o23.2) else (caret_by_m a0 o1 (-2)).bind fun o26 => (caret_seek_m K a0 o26 (-1)).bind fun o29 => (caret_to_m a0 o29).bind fun o32 => some (o32.1, o32.2))
theorem caret_Back_c (K : Nat) (a0 : plane_Plane) (b0_0 : Nat) (v0_1 : Value) : Con Tryd.prog 38 #[.pointer (some ⟨b0_0, 0, none⟩)] [.blk b0_0 [.int .i64 a0.f_size.f_Rows, .int .i64 a0.f_size.f_Cols, v0_1, .int .i64 a0.f_cursor] 71, .own v0_1 50 k_api_Cell a0.f_cells] (caret_Back_m K a0) (fun (o : plane_Plane × Int) (x : Unit) => .int .i64 o.2) (fun (o : plane_Plane × Int) (x : Unit) => [.blk b0_0 [.int .i64 o.1.f_size.f_Rows, .int .i64 o.1.f_size.f_Cols, v0_1, .int .i64 o.1.f_cursor] 71, .own v0_1 50 k_api_Cell o.1.f_cells]) := by
  unfold caret_Back_m
  refine con (args := [.pointer (some ⟨b0_0, 0, none⟩)]) Tryd.func38 rfl 48 rfl (.c .n) rfl fun c hD hrn => ?_
  refine cSeq (cRegion (lR (dAssign (.c rfl)) (lNil (xCode (cSeq (cRegion (lM .z1 (lCall fok_52 (.c (.t .z) .n) (plane_Plane_Cursor_c a0 b0_0 v0_1) (.c .z (.c .z .n)) rfl rfl fun o1 x2 h3 => ?_))))))))
  refine lA .z (lKeep (.k (.d (.d (.k (.k .n))))) (lNil (xCode (cSeq (cSeq (cRegion (lM .z2 (lM .z1 ?_))))))))
  refine lCall fok_53 (.c (.t .z1) (.c (.t .z) .n)) (field_Of_c K a0 o1 b0_0 v0_1) (.c .z (.c .z .n)) rfl rfl fun o4 x5 h6 => ?_
  refine lM .z (lR (dExtract (.t .z) rfl) (lR (dExtract (.t .z1) rfl) (lCh (cAlloc (cs := [.int .i64 0, .int .i64 0, vB 0]) zer_85 rfl) rfl rfl fun b7 => ?_)))
  refine lChU (uStoreA (us := [.int .i64 o4.1.f_Start, .int .i64 o4.1.f_Len, vB o4.1.f_Attr]) (cs' := [.int .i64 o4.1.f_Start, .int .i64 o4.1.f_Len, vB o4.1.f_Attr]) .z siz_85 rfl (by intro u hu; simp only [List.mem_cons, List.not_mem_nil, or_false] at hu; rcases hu with rfl | rfl | rfl <;> first | rfl | assumption) rfl (by simp) (.t .z) (.t .z2)) (lA .z1 (lKeep (.k (.k (.d (.d (.d (.d (.d (.d (.k (.k (.k .n))))))))))) (lNil (xCode (cSeq (cJoin (S := Bool) (X := Unit) (fun (s : Bool) (x : Unit) => [(34, .bool s), (4, .pointer (some ⟨b7, 0, none⟩)), (3, .int .i64 o1), (2, .int .i64 0), (0, .pointer (some ⟨b0_0, 0, none⟩))]) (fun (s : Bool) (x : Unit) => [.blk b0_0 [.int .i64 a0.f_size.f_Rows, .int .i64 a0.f_size.f_Cols, v0_1, .int .i64 a0.f_cursor] 71, .own v0_1 50 k_api_Cell a0.f_cells, .blk b7 [.int .i64 o4.1.f_Start, .int .i64 o4.1.f_Len, vB o4.1.f_Attr] 85]) ?_ (fun s17 x18 => ?_)))))))
  ·refine cRegion (lM .z (lM .z (lCase (fun h8 => ?_) (fun h8 => ?_))))
   ·refine lG .z h8 (dMove (.t .z6)) (lG .z1 h8 (dFld fld_85_0 (by decide) (.t .z4) rfl) (lG .z2 h8 (dLoad .z agg_3 (.t .z) rfl) (lCallG rfl .z3 h8 fok_54 (.c (.t .z2) (.c (.t .z) .n)) (caret_open_c K a0 _ b0_0 v0_1) (.c .z1 (.c .z1 .n)) rfl rfl fun o9 x10 h11 => ?_)))
    refine lR (dPickT (.t .z4) h8 (.t .z)) (lM .z (lCase (fun h12 => ?_) (fun h12 => ?_)))
    ·refine lG .z h12 (dMove (.t .z10)) (lG .z1 h12 (dFld fld_85_0 (by decide) (.t .z10) rfl) (lG .z2 h12 (dLoad .z2 agg_3 (.t .z) rfl) (lG .z3 h12 (dNe (.t .z2) (.t .z)) (lR (dPickT (.t .z4) h12 (.t .z)) (lM .z (lCase (fun h13 => ?_) (fun h13 => ?_)))))))
     ·refine lG .z (decide_eq_true h13) (dMove (.t .z16)) (lG .z1 (decide_eq_true h13) (dMove (.t .z19)) (lG .z2 (decide_eq_true h13) (dFld fld_85_0 (by decide) (.t .z17) rfl) (lG .z3 (decide_eq_true h13) (dLoad .z2 agg_3 (.t .z) rfl) ?_)))
      refine lCallG rfl .z4 (decide_eq_true h13) fok_55 (.c (.t .z2) (.c (.t .z) (.c (.c rfl) .n))) (caret_by_c a0 _ 1 b0_0 v0_1) (.c .z (.c .z .n)) rfl rfl fun o14 x15 h16 => ?_
      exact lG .z5 (decide_eq_true h13) (dNe (.t .z4) (.t .z)) (lR (dPickT (.t .z6) (decide_eq_true h13) (.t .z)) (lKeep (.k (.d (.d (.d (.d (.d (.d (.d (.d (.d (.d (.d (.d (.d (.d (.d (.d (.d (.d (.d (.d (.d (.k (.k (.k (.k .n)))))))))))))))))))))))))) (lNil (xJoin (decide (o1 ≠ o14)) () (.c .z (.c .z1 (.c .z2 (.c .z3 (.c .z4 .n))))) (.c .z (.c .z (.c .z .nil)))))))
     ·refine lPass rfl .z (nbT (decide_eq_false h13)) rfl (lPass rfl .z (nbT (decide_eq_false h13)) rfl (lPass rfl .z (nbT (decide_eq_false h13)) rfl (lPass rfl .z (nbT (decide_eq_false h13)) rfl (lPass rfl .z (nbT (decide_eq_false h13)) rfl (lPass rfl .z (nbT (decide_eq_false h13)) rfl (lR (dPickF (.t .z) (decide_eq_false h13) (.c rfl)) (lKeep (.k (.d (.d (.d (.d (.d (.d (.d (.d (.d (.d (.d (.d (.d (.d (.d (.k (.k (.k (.k .n)))))))))))))))))))) (lNil ?_))))))))
      exact xJoin false () (.c .z (.c .z1 (.c .z2 (.c .z3 (.c .z4 .n))))) (.c .z (.c .z (.c .z .nil)))
    ·refine lPass rfl .z (nbT (Bool.eq_false_iff.mpr h12)) rfl (lPass rfl .z (nbT (Bool.eq_false_iff.mpr h12)) rfl (lPass rfl .z (nbT (Bool.eq_false_iff.mpr h12)) rfl (lPass rfl .z (nbT (Bool.eq_false_iff.mpr h12)) rfl (lR (dPickF (.t .z) (Bool.eq_false_iff.mpr h12) (.c rfl)) (lM .z (lPass rfl .z (nbT rfl) rfl (lPass rfl .z (nbT rfl) rfl (lPass rfl .z (nbT rfl) rfl ?_))))))))
     exact lPass rfl .z (nbT rfl) rfl (lPass rfl .z (nbT rfl) rfl (lPass rfl .z (nbT rfl) rfl (lR (dPickF (.t .z) rfl (.c rfl)) (lKeep (.k (.d (.d (.d (.d (.d (.d (.d (.d (.d (.d (.d (.k (.k (.k (.k .n)))))))))))))))) (lNil (xJoin false () (.c .z (.c .z1 (.c .z2 (.c .z3 (.c .z4 .n))))) (.c .z (.c .z (.c .z .nil)))))))))
   ·refine lPass rfl .z (nbT (Bool.eq_false_iff.mpr h8)) rfl (lPass rfl .z (nbT (Bool.eq_false_iff.mpr h8)) rfl (lPass rfl .z (nbT (Bool.eq_false_iff.mpr h8)) rfl (lPass rfl .z (nbT (Bool.eq_false_iff.mpr h8)) rfl (lR (dPickF (.t .z) (Bool.eq_false_iff.mpr h8) (.c rfl)) (lM .z (lPass rfl .z (nbT rfl) rfl (lPass rfl .z (nbT rfl) rfl (lPass rfl .z (nbT rfl) rfl ?_))))))))
    refine lPass rfl .z (nbT rfl) rfl (lR (dPickF (.t .z) rfl (.c rfl)) (lM .z (lPass rfl .z (nbT rfl) rfl (lPass rfl .z (nbT rfl) rfl (lPass rfl .z (nbT rfl) rfl (lPass rfl .z (nbT rfl) rfl (lPass rfl .z (nbT rfl) rfl (lPass rfl .z (nbT rfl) rfl ?_))))))))
    exact lR (dPickF (.t .z) rfl (.c rfl)) (lKeep (.k (.d (.d (.d (.d (.d (.d (.d (.k (.k (.k (.k .n)))))))))))) (lNil (xJoin false () (.c .z (.c .z1 (.c .z2 (.c .z3 (.c .z4 .n))))) (.c .z1 (.c .z1 (.c .z .nil))))))
  ·refine xCode (cCondB (.t .z) (fun h19 => ?_) (fun h19 => ?_))
   ·refine cSeq (cRegion (lM .z4 (lM .z5 (lR (dFld fld_85_0 (by decide) (.t .z3) rfl) (lR (dLoad .z2 agg_3 (.t .z) rfl) (lCall fok_55 (.c (.t .z2) (.c (.t .z) (.c (.c rfl) .n))) (caret_by_c a0 _ 1 b0_0 v0_1) (.c .z (.c .z .n)) rfl rfl fun o20 x21 h22 => ?_))))))
    refine lCall fok_50 (.c (.t .z4) (.c (.t .z) .n)) (caret_to_c a0 o20 b0_0 v0_1) (.c .z (.c .z .n)) rfl rfl fun o23 x24 h25 => ?_
    exact lAK .z (.k (.k (.k (.k (.k (.k (.k (.k (.k (.d (Keep.refl _))))))))))) (lKeep (.k (.d (.d (.d (.d (.d (.d (.d (.d (.k (.k .n))))))))))) (lNil (xCode (cRet (rLeave hD (lvRet (rs := [.tmp 2]) rfl (.t .z .n) () rfl (.c .z (.c .z .nil))))))))
   ·refine cSkip (xCode (cSeq (cRegion (lM .z4 (lM .z5 (lM .z6 (lM .z5 (lCall fok_55 (.c (.t .z1) (.c (.t .z) (.c (.c rfl) .n))) (caret_by_c a0 o1 _ b0_0 v0_1) (.c .z (.c .z .n)) rfl rfl fun o26 x27 h28 => ?_))))))))
    refine lCall fok_51 (.c (.t .z3) (.c (.t .z) (.c (.c rfl) .n))) (caret_seek_c K a0 o26 _ b0_0 v0_1) (.c .z (.c .z .n)) rfl rfl fun o29 x30 h31 => ?_
    refine lCall fok_50 (.c (.t .z5) (.c (.t .z) .n)) (caret_to_c a0 o29 b0_0 v0_1) (.c .z (.c .z .n)) rfl rfl fun o32 x33 h34 => ?_
    exact lAK .z (.k (.k (.k (.k (.k (.k (.k (.k (.k (.k (.d (Keep.refl _)))))))))))) (lKeep (.k .n) (lNil (xCode (cRet (rLeave hD (lvRet (rs := [.tmp 2]) rfl (.t .z .n) () rfl (.c .z (.c .z .nil))))))))

-- greenscreen/addr.Split
def addr_Split_m (a0 : api_Size) (a1 : Int) : Option (Int × Int × Bool) := ((if a1 < 0 then some true else (addr_Cells_m a0).bind fun o3 => some (decide (a1 ≥ o3)))).bind fun (s6 : Bool) => (if s6 = true then some (0, 0, false) else (if a0.f_Cols ≠ 0 then (if a0.f_Cols ≠ 0 then some (w64 (Int.tdiv a1 a0.f_Cols), Int.tmod a1 a0.f_Cols, true) else none) else none))
theorem addr_Split_c (a0 : api_Size) (a1 : Int) : Con Tryd.prog 56 #[.agg #[.int .i64 a0.f_Rows, .int .i64 a0.f_Cols], .int .i64 a1] [] (addr_Split_m a0 a1) (fun (o : Int × Int × Bool) (x : Unit) => .tuple #[.int .i64 o.1, .int .i64 o.2.1, .bool o.2.2]) (fun (o : Int × Int × Bool) (x : Unit) => []) := by
  unfold addr_Split_m
  refine con (args := [.agg #[.int .i64 a0.f_Rows, .int .i64 a0.f_Cols], .int .i64 a1]) Tryd.func56 rfl 23 rfl (.c (.c .n)) rfl fun c hD hrn => ?_
  refine cSeq (cRegion (lCh (cBox (cs := [.int .i64 a0.f_Rows, .int .i64 a0.f_Cols]) (.t .z) rfl) rfl rfl fun b1 => ?_))
  refine lR (dAssign (.c rfl)) (lR (dAssign (.c rfl)) (lR (dAssign (.c rfl)) (lKeep (.k (.k (.k (.k (.d (.k .n)))))) (lNil (xCode (cSeq (cSeq (cJoin (S := Bool) (X := Unit) (fun (s : Bool) (x : Unit) => [(14, .bool s), (6, .bool false), (5, .int .i64 0), (4, .int .i64 0), (2, .pointer (some ⟨b1, 0, none⟩)), (1, .int .i64 a1)]) (fun (s : Bool) (x : Unit) => [.blk b1 [.int .i64 a0.f_Rows, .int .i64 a0.f_Cols] 34]) ?_ (fun s6 x7 => ?_)))))))))
  ·refine cRegion (lM .z4 (lR (dLt (.t .z) (.c rfl)) (lM .z (lCase (fun h2 => ?_) (fun h2 => ?_)))))
   ·exact lPass rfl .z (nbF (decide_eq_true h2)) rfl (lPass rfl .z (nbF (decide_eq_true h2)) rfl (lPass rfl .z (nbF (decide_eq_true h2)) rfl (lPass rfl .z (nbF (decide_eq_true h2)) rfl (lR (dPickT (.t .z) (decide_eq_true h2) (.c rfl)) (lKeep (.k (.d (.d (.d (.k (.k (.k (.k (.k .n))))))))) (lNil (xJoin true () (.c .z (.c .z1 (.c .z2 (.c .z3 (.c .z4 (.c .z5 .n)))))) (.c .z .nil))))))))
   ·refine lG .z (decide_eq_false h2) (dMove (.t .z7)) (lG .z1 (decide_eq_false h2) (dLoadA (us := [.int .i64 a0.f_Rows, .int .i64 a0.f_Cols]) .z agg_34 siz_34 rfl (.t .z7) rfl) (lCallG rfl .z2 (decide_eq_false h2) fok_21 (.c (.t .z) .n) (addr_Cells_c a0) .n rfl rfl fun o3 x4 h5 => ?_))
    exact lG .z3 (decide_eq_false h2) (dGe (.t .z2) (.t .z)) (lR (dPickF (.t .z4) (decide_eq_false h2) (.t .z)) (lKeep (.k (.d (.d (.d (.d (.d (.d (.d (.k (.k (.k (.k (.k .n))))))))))))) (lNil (xJoin (decide (a1 ≥ o3)) () (.c .z (.c .z1 (.c .z2 (.c .z3 (.c .z4 (.c .z5 .n)))))) (.c .z .nil)))))
  ·refine xCode (cCondB (.t .z) (fun h8 => ?_) (fun h8 => ?_))
   ·refine cSeq (cRegion (lRdK (dAssign (.c rfl)) (.k (.k (.k (.d (Keep.refl _))))) rfl rfl (lRdK (dAssign (.c rfl)) (.k (.k (.k (.d (Keep.refl _))))) rfl rfl (lRdK (dAssign (.c rfl)) (.k (.k (.k (.d (Keep.refl _))))) rfl rfl (lKeep (.k (.k (.k (.d (.k (.k .n)))))) (lNil (xCode (cRet ?_))))))))
    exact rLeave hD (lvRet (rs := [.tmp 4, .tmp 5, .tmp 6]) rfl (.t .z2 (.t .z1 (.t .z .n))) () rfl .nil)
   ·refine cSkip (xCode (cSeq (cRegionM [] [(0, .early), (1, .early), (2, .early), (3, .early), (4, .early), (5, .early), (6, .early), (7, .early), (8, .early), (9, .early), (10, .early)] mixed (by kernel_rfl) (.c .z .nil) (.c .n) (mRd rfl rfl (fun _ _ _ => dMove (.t .z5)) rfl rfl ?_))))
    refine mRd rfl rfl (fun _ _ _ => dFld fld_34_1 (by decide) (.t .z5) rfl) rfl rfl ?_
    refine mRd rfl rfl (fun _ _ _ => dLoad .z agg_3 (.t .z) rfl) rfl rfl ?_
    refine mGuard fun h9 => ?_
    refine mRd rfl rfl (fun _ _ _ => dQuoI (.t .z2) (.t .z) h9) rfl rfl ?_
    refine mRd rfl rfl (fun _ _ _ => dMove (.t .z9)) rfl rfl ?_
    refine mRd rfl rfl (fun _ _ _ => dFld fld_34_1 (by decide) (.t .z9) rfl) rfl rfl ?_
    refine mRd rfl rfl (fun _ _ _ => dLoad .z agg_3 (.t .z) rfl) rfl rfl ?_
    refine mGuard fun h10 => ?_
    refine mRd rfl rfl (fun _ _ _ => dRem (.t .z2) (.t .z) h10) rfl rfl ?_
    refine mRdK rfl rfl (fun _ _ _ => dAssign (.t .z4)) (.k (.k (.k (.k (.k (.k (.k (.k (.k (.k (.k (.d (Keep.refl _))))))))))))) rfl rfl ?_
    refine mRdK rfl rfl (fun _ _ _ => dAssign (.t .z1)) (.k (.k (.k (.k (.k (.k (.k (.k (.k (.k (.k (.d (Keep.refl _))))))))))))) rfl rfl ?_
    refine mRdK rfl rfl (fun _ _ _ => dAssign (.c rfl)) (.k (.k (.k (.k (.k (.k (.k (.k (.k (.k (.k (.d (Keep.refl _))))))))))))) rfl rfl ?_
    exact mKeep (.k (.k (.k .n))) (mNil (xCode (cRet (rLeave hD (lvRet (rs := [.tmp 4, .tmp 5, .tmp 6]) rfl (.t .z2 (.t .z1 (.t .z .n))) () rfl .nil)))))

-- greenscreen/field.Open
def field_Open_m (K : Nat) (a0 : plane_Plane) (a1 : Int) : Option (Bool) := (field_Of_m K a0 a1).bind fun o1 => (if (!o1.2) = true then ((if a1 ≥ 0 then (plane_Plane_Len_m a0).bind fun o7 => some (decide (a1 < o7)) else some false)).bind fun (s10 : Bool) => some s10 else (if o1.1.f_Start ≠ a1 then (attr_Protected_m o1.1.f_Attr).bind fun o13 => some (!o13) else some false))
theorem field_Open_c (K : Nat) (a0 : plane_Plane) (a1 : Int) (b0_0 : Nat) (v0_1 : Value) : Con Tryd.prog 59 #[.pointer (some ⟨b0_0, 0, none⟩), .int .i64 a1] [.blk b0_0 [.int .i64 a0.f_size.f_Rows, .int .i64 a0.f_size.f_Cols, v0_1, .int .i64 a0.f_cursor] 71, .own v0_1 50 k_api_Cell a0.f_cells] (field_Open_m K a0 a1) (fun (o : Bool) (x : Unit) => .bool o) (fun (o : Bool) (x : Unit) => [.blk b0_0 [.int .i64 a0.f_size.f_Rows, .int .i64 a0.f_size.f_Cols, v0_1, .int .i64 a0.f_cursor] 71, .own v0_1 50 k_api_Cell a0.f_cells]) := by
  unfold field_Open_m
  refine con (args := [.pointer (some ⟨b0_0, 0, none⟩), .int .i64 a1]) Tryd.func59 rfl 33 rfl (.c (.c .n)) rfl fun c hD hrn => ?_
  refine cSeq (cRegion (lR (dAssign (.c rfl)) (lNil (xCode (cSeq (cRegion (lM .z1 (lM .z3 ?_))))))))
  refine lCall fok_53 (.c (.t .z1) (.c (.t .z) .n)) (field_Of_c K a0 a1 b0_0 v0_1) (.c .z (.c .z .n)) rfl rfl fun o1 x2 h3 => ?_
  refine lM .z (lR (dExtract (.t .z) rfl) (lR (dExtract (.t .z1) rfl) (lCh (cAlloc (cs := [.int .i64 0, .int .i64 0, vB 0]) zer_85 rfl) rfl rfl fun b4 => ?_)))
  refine lChU (uStoreA (us := [.int .i64 o1.1.f_Start, .int .i64 o1.1.f_Len, vB o1.1.f_Attr]) (cs' := [.int .i64 o1.1.f_Start, .int .i64 o1.1.f_Len, vB o1.1.f_Attr]) .z siz_85 rfl (by intro u hu; simp only [List.mem_cons, List.not_mem_nil, or_false] at hu; rcases hu with rfl | rfl | rfl <;> first | rfl | assumption) rfl (by simp) (.t .z) (.t .z2)) (lA .z1 (lKeep (.k (.k (.d (.d (.d (.d (.d (.d (.k (.k (.k .n))))))))))) (lNil (xCode (cSeq (cSeq (cRegion (lM .z ?_))))))))
  refine lR (dNot (.t .z)) (lKeep (.k (.d (.d (.k (.k (.k (.k .n))))))) (lNil (xCode (cCondB (.t .z) (fun h5 => ?_) (fun h5 => ?_)))))
  ·refine cSeq (cJoin (S := Bool) (X := Unit) (fun (s : Bool) (x : Unit) => [(4, .bool s), (5, .pointer (some ⟨b4, 0, none⟩)), (1, .int .i64 a1)]) (fun (s : Bool) (x : Unit) => [.blk b0_0 [.int .i64 a0.f_size.f_Rows, .int .i64 a0.f_size.f_Cols, v0_1, .int .i64 a0.f_cursor] 71, .own v0_1 50 k_api_Cell a0.f_cells, .blk b4 [.int .i64 o1.1.f_Start, .int .i64 o1.1.f_Len, vB o1.1.f_Attr] 85]) ?_ (fun s10 x11 => ?_))
   ·refine cRegion (lM .z4 (lR (dGe (.t .z) (.c rfl)) (lM .z (lCase (fun h6 => ?_) (fun h6 => ?_)))))
    ·refine lG .z (decide_eq_true h6) (dMove (.t .z7)) (lG .z1 (decide_eq_true h6) (dMove (.t .z7)) (lCallG rfl .z2 (decide_eq_true h6) fok_58 (.c (.t .z) .n) (plane_Plane_Len_c a0 b0_0 v0_1) (.c .z1 (.c .z1 .n)) rfl rfl fun o7 x8 h9 => ?_))
     exact lG .z3 (decide_eq_true h6) (dLt (.t .z2) (.t .z)) (lR (dPickT (.t .z4) (decide_eq_true h6) (.t .z)) (lAK .z (.k (.k (.k (.k (.k (.k (.k (.k (.k (.k (.d (Keep.refl _)))))))))))) (lKeep (.k (.d (.d (.d (.d (.d (.d (.d (.d (.d (.k (.d (.k .n))))))))))))) (lNil (xJoin (decide (a1 < o7)) () (.c .z (.c .z1 (.c .z2 .n))) (.c .z (.c .z (.c .z .nil))))))))
    ·exact lPass rfl .z (nbT (decide_eq_false h6)) rfl (lPass rfl .z (nbT (decide_eq_false h6)) rfl (lPass rfl .z (nbT (decide_eq_false h6)) rfl (lPass rfl .z (nbT (decide_eq_false h6)) rfl (lR (dPickF (.t .z) (decide_eq_false h6) (.c rfl)) (lAK .z (.k (.k (.k (.k (.k (.k (.d (Keep.refl _)))))))) (lKeep (.k (.d (.d (.d (.d (.d (.k (.d (.k .n))))))))) (lNil (xJoin false () (.c .z (.c .z1 (.c .z2 .n))) (.c .z1 (.c .z1 (.c .z .nil)))))))))))
   ·exact xCode (cRet (rLeave hD (lvRet (rs := [.tmp 4]) rfl (.t .z .n) () rfl (.c .z (.c .z .nil)))))
  ·refine cSkip (xCode (cSeq (cRegion (lR (dFld fld_85_0 (by decide) (.t .z1) rfl) (lR (dLoad .z agg_3 (.t .z) rfl) (lM .z6 (lR (dNe (.t .z1) (.t .z)) (lM .z ?_))))))))
   refine lCase (fun h12 => ?_) (fun h12 => ?_)
   ·refine lG .z (decide_eq_true h12) (dFld fld_85_2 (by decide) (.t .z6) rfl) (lG .z1 (decide_eq_true h12) (dLoad .z agg_5 (.t .z) rfl) (lCallG rfl .z2 (decide_eq_true h12) fok_68 (.c (.t .z) .n) (attr_Protected_c _) .n rfl rfl fun o13 x14 h15 => ?_))
    exact lG .z3 (decide_eq_true h12) (dNot (.t .z)) (lR (dPickT (.t .z4) (decide_eq_true h12) (.t .z)) (lAK .z (.k (.k (.k (.k (.k (.k (.k (.k (.k (.k (.k (.k (.d (Keep.refl _)))))))))))))) (lKeep (.k .n) (lNil (xCode (cRet (rLeave hD (lvRet (rs := [.tmp 4]) rfl (.t .z .n) () rfl (.c .z1 (.c .z1 .nil))))))))))
   ·refine lPass rfl .z (nbT (decide_eq_false h12)) rfl (lPass rfl .z (nbT (decide_eq_false h12)) rfl (lPass rfl .z (nbT (decide_eq_false h12)) rfl (lPass rfl .z (nbT (decide_eq_false h12)) rfl (lR (dPickF (.t .z) (decide_eq_false h12) (.c rfl)) (lAK .z (.k (.k (.k (.k (.k (.k (.k (.k (.d (Keep.refl _)))))))))) (lKeep (.k .n) (lNil (xCode ?_))))))))
    exact cRet (rLeave hD (lvRet (rs := [.tmp 4]) rfl (.t .z .n) () rfl (.c .z1 (.c .z1 .nil))))

-- greenscreen/caret.Newline
def caret_Newline_l1 (K : Nat) (a0 : plane_Plane) (o13 : (Int)) (o16 : (Int)) : Nat → (Int) → Option (Sum (Unit) (plane_Plane × Int))
  | 0, _ => none
  | n + 1, s19 => (if s19 < o16 then (caret_by_m a0 o13 s19).bind fun o25 => (field_Open_m K a0 o25).bind fun o28 => (if o28 = true then (caret_to_m a0 o25).bind fun o32 => some (Sum.inr (o32.1, o32.2)) else (caret_Newline_l1 K a0 o13 o16 n) (w64 (s19 + 1))) else some (Sum.inl ()))
def caret_Newline_m (K : Nat) (a0 : plane_Plane) : Option (plane_Plane × Int) := (plane_Plane_Size_m a0).bind fun o1 => (plane_Plane_Cursor_m a0).bind fun o4 => (addr_Split_m o1 o4).bind fun o7 => (plane_Plane_Size_m a0).bind fun o10 => (caret_by_m a0 0 (w64 ((w64 (o7.1 + 1)) * o10.f_Cols))).bind fun o13 => (plane_Plane_Len_m a0).bind fun o16 => (caret_Newline_l1 K a0 o13 o16 K 0).bind (onS fun (s35 : Unit) => (caret_to_m a0 0).bind fun o37 => some (o37.1, o37.2))
theorem caret_Newline_c (K : Nat) (a0 : plane_Plane) (b0_0 : Nat) (v0_1 : Value) : Con Tryd.prog 39 #[.pointer (some ⟨b0_0, 0, none⟩)] [.blk b0_0 [.int .i64 a0.f_size.f_Rows, .int .i64 a0.f_size.f_Cols, v0_1, .int .i64 a0.f_cursor] 71, .own v0_1 50 k_api_Cell a0.f_cells] (caret_Newline_m K a0) (fun (o : plane_Plane × Int) (x : Unit) => .int .i64 o.2) (fun (o : plane_Plane × Int) (x : Unit) => [.blk b0_0 [.int .i64 o.1.f_size.f_Rows, .int .i64 o.1.f_size.f_Cols, v0_1, .int .i64 o.1.f_cursor] 71, .own v0_1 50 k_api_Cell o.1.f_cells]) := by
  unfold caret_Newline_m
  refine con (args := [.pointer (some ⟨b0_0, 0, none⟩)]) Tryd.func39 rfl 44 rfl (.c .n) rfl fun c hD hrn => ?_
  refine cSeq (cRegion (lR (dAssign (.c rfl)) (lNil (xCode (cSeq (cRegion (lM .z1 (lCall fok_57 (.c (.t .z) .n) (plane_Plane_Size_c a0 b0_0 v0_1) (.c .z (.c .z .n)) rfl rfl fun o1 x2 h3 => ?_))))))))
  refine lM .z3 (lCall fok_52 (.c (.t .z) .n) (plane_Plane_Cursor_c a0 b0_0 v0_1) (.c .z (.c .z .n)) rfl rfl fun o4 x5 h6 => ?_)
  refine lCall fok_56 (.c (.t .z2) (.c (.t .z) .n)) (addr_Split_c o1 o4) .n rfl rfl fun o7 x8 h9 => ?_
  refine lM .z (lR (dExtract (.t .z) rfl) (lR (dExtract (.t .z1) rfl) (lR (dExtract (.t .z2) rfl) (lA .z2 (lRdN (dAssign (.t .z2)) rfl (lRdN (dAssign (.t .z1)) rfl (lKeep (.k (.d (.d (.d (.d (.d (.d (.d (.d (.d (.k (.k .n)))))))))))) (lNil ?_))))))))
  refine xCode (cSeq (cRegion (lM .z2 (lM .z1 (lR (dAddI (.t .z) (.c rfl)) (lM .z5 (lCall fok_57 (.c (.t .z) .n) (plane_Plane_Size_c a0 b0_0 v0_1) (.c .z (.c .z .n)) rfl rfl fun o10 x11 h12 => ?_)))))))
  refine lR (dField (u := .int .i64 o10.f_Cols) fld_34_1 (.t .z) rfl) (lR (dMulI (.t .z3) (.t .z)) (lCall fok_55 (.c (.t .z6) (.c (.c rfl) (.c (.t .z) .n))) (caret_by_c a0 0 _ b0_0 v0_1) (.c .z (.c .z .n)) rfl rfl fun o13 x14 h15 => ?_))
  refine lA .z (lKeep (.k (.d (.d (.d (.d (.d (.d (.d (.d (.d (.k (.k .n)))))))))))) (lNil (xCode (cSeq (cSeq (cRegion (lM .z2 (lCall fok_58 (.c (.t .z) .n) (plane_Plane_Len_c a0 b0_0 v0_1) (.c .z (.c .z .n)) rfl rfl fun o16 x17 h18 => ?_))))))))
  refine lR (dMove (.c rfl)) (lKeep (.k (.k (.d (.k (.k (.k .n)))))) (lNil (xCode (cLoopR (S := Int) (X := Unit) (S' := Unit) (X' := Unit) (caret_Newline_l1 K a0 o13 o16) (fun (s : Int) (x : Unit) => [(28, .int .i64 s), (27, .int .i64 o16), (6, .int .i64 o13), (2, .int .i64 0), (0, .pointer (some ⟨b0_0, 0, none⟩))]) (fun (s : Int) (x : Unit) => [.blk b0_0 [.int .i64 a0.f_size.f_Rows, .int .i64 a0.f_size.f_Cols, v0_1, .int .i64 a0.f_cursor] 71, .own v0_1 50 k_api_Cell a0.f_cells]) (fun (s : Unit) (x : Unit) => [(2, .int .i64 0), (0, .pointer (some ⟨b0_0, 0, none⟩))]) (fun (s : Unit) (x : Unit) => [.blk b0_0 [.int .i64 a0.f_size.f_Rows, .int .i64 a0.f_size.f_Cols, v0_1, .int .i64 a0.f_cursor] 71, .own v0_1 50 k_api_Cell a0.f_cells]) K 0 () (.c .z (.c .z1 (.c .z2 (.c .z3 (.c .z4 .n))))) (.c .z (.c .z .nil)) (fun _ => rfl) (fun n21 I22 h23 s19 x20 => ?_) (fun s35 x36 => ?_)))))
  ·rw [caret_Newline_l1]
   refine cSeq (cRegion (lR (dLt (.t .z) (.t .z1)) (lNil (xCode (cSeq (cCond (.t .z) (fun h24 => ?_) (fun h24 => ?_)))))))
   ·refine cSkip (xCode (cSeq (cBlock (cSeq (cRegion (lM .z1 (lA .z (lNil ?_))))))))
    refine xCode (cSeq (cRegion (lM .z7 (lM .z6 (lM .z2 (lCall fok_55 (.c (.t .z2) (.c (.t .z1) (.c (.t .z) .n))) (caret_by_c a0 o13 s19 b0_0 v0_1) (.c .z (.c .z .n)) rfl rfl fun o25 x26 h27 => ?_))))))
    refine lA .z (lNil (xCode (cSeq (cRegion (lM .z12 (lM .z1 (lCall fok_59 (.c (.t .z1) (.c (.t .z) .n)) (field_Open_c K a0 o25 b0_0 v0_1) (.c .z (.c .z .n)) rfl rfl fun o28 x29 h30 => ?_)))))))
    refine lNil (xCode (cCondB (.t .z) (fun h31 => ?_) (fun h31 => ?_)))
    ·refine cSeq (cRegion (lM .z15 (lM .z4 (lCall fok_50 (.c (.t .z1) (.c (.t .z) .n)) (caret_to_c a0 o25 b0_0 v0_1) (.c .z (.c .z .n)) rfl rfl fun o32 x33 h34 => ?_))))
     exact lAK .z (.k (.k (.k (.k (.k (.k (.k (.k (.k (.k (.k (.k (.k (.k (.k (.k (.k (.d (Keep.refl _))))))))))))))))))) (lNil (xCode (cRet (rInner (rLeave hD (lvRet (rs := [.tmp 2]) rfl (.t .z .n) () rfl (.c .z (.c .z .nil))))))))
    ·exact cSkip (xBlock (xCode (cRegion (lR (dAddI (.t .z11) (.c rfl)) (lRdK (dMove (.t .z)) (.k (.k (.k (.k (.k (.k (.k (.k (.k (.k (.k (.k (.d (Keep.refl _)))))))))))))) rfl rfl (lNil (xRound h23 (w64 (s19 + 1)) () (.c .z (.c .z13 (.c .z14 (.c .z15 (.c .z16 .n))))) (.c .z (.c .z .nil)))))))))
   ·exact cExit (xOver (xOverF (xBreakR () () (.c .z4 (.c .z5 .n)) (.c .z (.c .z .nil)))))
  ·refine xCode (cSeq (cRegion (lM .z1 (lCall fok_50 (.c (.t .z) (.c (.c rfl) .n)) (caret_to_c a0 0 b0_0 v0_1) (.c .z (.c .z .n)) rfl rfl fun o37 x38 h39 => ?_))))
   exact lAK .z (.k (.k (.d (Keep.refl _)))) (lKeep (.k .n) (lNil (xCode (cRet (rLeave hD (lvRet (rs := [.tmp 2]) rfl (.t .z .n) () rfl (.c .z (.c .z .nil))))))))

-- greenscreen/field.All
def field_All_m (a0 : plane_Plane) : Option (Unit) := some ()
theorem field_All_c (a0 : plane_Plane) (b0_0 : Nat) (v0_1 : Value) : Con Tryd.prog 67 #[.pointer (some ⟨b0_0, 0, none⟩)] [.blk b0_0 [.int .i64 a0.f_size.f_Rows, .int .i64 a0.f_size.f_Cols, v0_1, .int .i64 a0.f_cursor] 71, .own v0_1 50 k_api_Cell a0.f_cells] (field_All_m a0) (fun (o : Unit) (x : Nat) => .func (.func 84) #[] #[.pointer (some ⟨x, 0, none⟩)]) (fun (o : Unit) (x : Nat) => [.blk b0_0 [.int .i64 a0.f_size.f_Rows, .int .i64 a0.f_size.f_Cols, v0_1, .int .i64 a0.f_cursor] 71, .own v0_1 50 k_api_Cell a0.f_cells, .blk x [.pointer (some ⟨b0_0, 0, none⟩)] 39]) := by
  unfold field_All_m
  refine con (args := [.pointer (some ⟨b0_0, 0, none⟩)]) Tryd.func67 rfl 4 rfl (.c .n) rfl fun c hD hrn => ?_
  refine cSeq (cRegion (lCh (cBox (cs := [.pointer (some ⟨b0_0, 0, none⟩)]) (.t .z) rfl) rfl rfl fun b1 => ?_))
  refine lR (dAssign (.c rfl)) (lKeep (.k (.k .n)) (lNil (xCode (cSeq (cRegion (lR (dMakeFuncL (vs := [.pointer (some ⟨b1, 0, none⟩)]) (.c (.t .z1) .n)) (lAK .z (.k (.d (Keep.refl _))) (lKeep (.k .n) ?_))))))))
  exact lNil (xCode (cRet (rLeave hD (lvRet (rs := [.tmp 2]) rfl (.t .z .n) b1 rfl (.c .z1 (.c .z1 (.c .z .nil)))))))

-- greenscreen/field.Home
def field_Home_l1 (K : Nat) (a0 : plane_Plane) (o13 : (Int)) : Nat → (Int) → Option (Sum (Unit) (Sum (Unit) (Int)))
  | 0, _ => none
  | n + 1, s16 => (if s16 < o13 then (plane_Plane_At_m a0 s16).bind fun o22 => (if o22.f_Start = true then (field_at_m K a0 s16).bind fun o26 => (((if o26.f_Len > 0 then (attr_Protected_m o26.f_Attr).bind fun o31 => some (!o31) else some false)).bind fun (s34 : Bool) => (if s34 = true then (plane_Plane_Size_m a0).bind fun o37 => (addr_Move_m o37 o26.f_Start 1).bind fun o40 => some (Sum.inr o40) else some (Sum.inl ()))).bind (onE (fun (s43 : Unit) => (field_Home_l1 K a0 o13 n) (w64 (s16 + 1))) (fun (s46 : Int) => some (Sum.inr (Sum.inr s46)))) else (field_Home_l1 K a0 o13 n) (w64 (s16 + 1))) else some (Sum.inl ()))
def field_Home_m (K : Nat) (a0 : plane_Plane) : Option (Int) := (field_All_m a0).bind fun o3 => ((plane_Plane_Len_m a0).bind fun o13 => (field_Home_l1 K a0 o13 K 0).bind (onS fun (s49 : Unit) => some (Sum.inl ()))).bind (onE (fun (s51 : Unit) => some 0) (fun (s54 : Int) => some s54))
theorem field_Home_c (K : Nat) (a0 : plane_Plane) (b0_0 : Nat) (v0_1 : Value) : Con Tryd.prog 60 #[.pointer (some ⟨b0_0, 0, none⟩)] [.blk b0_0 [.int .i64 a0.f_size.f_Rows, .int .i64 a0.f_size.f_Cols, v0_1, .int .i64 a0.f_cursor] 71, .own v0_1 50 k_api_Cell a0.f_cells] (field_Home_m K a0) (fun (o : Int) (x : Unit) => .int .i64 o) (fun (o : Int) (x : Unit) => [.blk b0_0 [.int .i64 a0.f_size.f_Rows, .int .i64 a0.f_size.f_Cols, v0_1, .int .i64 a0.f_cursor] 71, .own v0_1 50 k_api_Cell a0.f_cells]) := by
  unfold field_Home_m
  refine con (args := [.pointer (some ⟨b0_0, 0, none⟩)]) Tryd.func60 rfl 21 rfl (.c .n) rfl fun c hD hrn => ?_
  refine cSeq (cRegion (lCh (cBox (cs := [.pointer (some ⟨b0_0, 0, none⟩)]) (.t .z) rfl) rfl rfl fun b1 => ?_))
  refine lCh (cAlloc (cs := [.int .i64 0]) zer_3 rfl) rfl rfl fun b2 => ?_
  refine lKeep (.k (.k .n)) (lNil (xCode (cSeq (cSeq (cRegion (lR (dLoad .z1 agg_39 (.t .z1) rfl) (lCall fok_67 (.c (.t .z) .n) (field_All_c a0 b0_0 v0_1) (.c .z2 (.c .z2 .n)) rfl rfl fun o3 x4 h5 => ?_)))))))
  refine lKeep (.k (.d (.k (.k .n)))) (lNil (xCode (cBlock (cRange (X := (Unit) × (Unit)) (jc := .ret) (L1 := (fun (s : Unit) (x : (Unit) × (Unit)) => [.blk b0_0 [.int .i64 a0.f_size.f_Rows, .int .i64 a0.f_size.f_Cols, v0_1, .int .i64 a0.f_cursor] 71, .own v0_1 50 k_api_Cell a0.f_cells, .blk x4 [.pointer (some ⟨b0_0, 0, none⟩)] 39, .blk b2 [.int .i64 0] 3, .blk b1 [.pointer (some ⟨b0_0, 0, none⟩)] 39])) (L2 := (fun (s : Int) (x : (Unit) × (Unit)) => [.blk b0_0 [.int .i64 a0.f_size.f_Rows, .int .i64 a0.f_size.f_Cols, v0_1, .int .i64 a0.f_cursor] 71, .own v0_1 50 k_api_Cell a0.f_cells, .blk x4 [.pointer (some ⟨b0_0, 0, none⟩)] 39, .blk b1 [.pointer (some ⟨b0_0, 0, none⟩)] 39, .blk b2 [.int .i64 s] 3])) (rv := fun _ _ => .tuple #[]) (cap := [.pointer (some ⟨x4, 0, none⟩)]) hrn (.t .z) fok_84 (fun fn9 T7 D8 b6 as12 bd12 h11 h12 h10 => ?_) (fun s51 x52 D53 => ?_) (fun s54 x55 D56 => ?_)))))
  ·refine con (args := [.func (.yield b6) #[] #[], .pointer (some ⟨x4, 0, none⟩)]) Tryd.func84 rfl 22 rfl (.c (.c .n)) rfl fun c hD hrn => ?_
   refine cSeq (cRegion (lR (dLoad .z3 agg_39 (.t .z1) rfl) (lCall fok_58 (.c (.t .z) .n) (plane_Plane_Len_c a0 b0_0 v0_1) (.c .z1 (.c .z1 .n)) rfl rfl fun o13 x14 h15 => ?_)))
   refine lR (dMove (.c rfl)) (lKeep (.k (.k (.d (.k (.k .n))))) (lNil (xCode (cLoopR (S := Int) (X := Unit) (S' := Unit) (X' := Unit) (field_Home_l1 K a0 o13) (fun (s : Int) (x : Unit) => [(6, .int .i64 s), (5, .int .i64 o13), (0, .func (.yield b6) #[] #[]), (1, .pointer (some ⟨x4, 0, none⟩))]) (fun (s : Int) (x : Unit) => [.obj b6 (rc fn9 T7 [6] as12 bd12 D8 .ready none), .blk b0_0 [.int .i64 a0.f_size.f_Rows, .int .i64 a0.f_size.f_Cols, v0_1, .int .i64 a0.f_cursor] 71, .own v0_1 50 k_api_Cell a0.f_cells, .blk x4 [.pointer (some ⟨b0_0, 0, none⟩)] 39, .blk b2 [.int .i64 0] 3, .blk b1 [.pointer (some ⟨b0_0, 0, none⟩)] 39]) (fun (s : Unit) (x : Unit) => []) (fun (s : Unit) (x : Unit) => [.obj b6 (rc fn9 T7 [6] as12 bd12 D8 .ready none), .blk b0_0 [.int .i64 a0.f_size.f_Rows, .int .i64 a0.f_size.f_Cols, v0_1, .int .i64 a0.f_cursor] 71, .own v0_1 50 k_api_Cell a0.f_cells, .blk x4 [.pointer (some ⟨b0_0, 0, none⟩)] 39, .blk b2 [.int .i64 0] 3, .blk b1 [.pointer (some ⟨b0_0, 0, none⟩)] 39]) K 0 () (.c .z (.c .z1 (.c .z2 (.c .z3 .n)))) (.c .z2 (.c .z (.c .z (.c .z (.c .z (.c .z .nil)))))) (fun _ => rfl) (fun n18 I19 h20 s16 x17 => ?_) (fun s49 x50 => ?_)))))
   ·rw [field_Home_l1]
    refine cSeq (cRegion (lR (dLt (.t .z) (.t .z1)) (lNil (xCode (cSeq (cCond (.t .z) (fun h21 => ?_) (fun h21 => ?_)))))))
    ·refine cSkip (xCode (cSeq (cBlock (cSeq (cRegion (lM .z1 (lA .z (lNil ?_))))))))
     refine xCode (cSeq (cRegion (lR (dLoad .z3 agg_39 (.t .z6) rfl) (lM .z1 (lCall fok_18 (.c (.t .z1) (.c (.t .z) .n)) (plane_Plane_At_c a0 s16 b0_0 v0_1) (.c .z1 (.c .z1 .n)) rfl rfl fun o22 x23 h24 => ?_)))))
     refine lR (dField (u := .bool o22.f_Start) fld_50_2 (.t .z) rfl) (lM .z (lCase (fun h25 => ?_) (fun h25 => ?_)))
     ·refine lG .z h25 (dMove (.t .z10)) (lG .z1 h25 (dLoad .z3 agg_39 (.t .z12) rfl) (lG .z2 h25 (dMove (.t .z7)) (lCallG rfl .z3 h25 fok_74 (.c (.t .z1) (.c (.t .z) .n)) (field_at_c K a0 s16 b0_0 v0_1) (.c .z (.c .z .n)) rfl rfl fun o26 x27 h28 => ?_)))
      refine lYieldG (X := (Unit) × (Unit)) (jc := .ret) (L1 := (fun (s : Unit) (x : (Unit) × (Unit)) => [.blk b0_0 [.int .i64 a0.f_size.f_Rows, .int .i64 a0.f_size.f_Cols, v0_1, .int .i64 a0.f_cursor] 71, .own v0_1 50 k_api_Cell a0.f_cells, .blk x4 [.pointer (some ⟨b0_0, 0, none⟩)] 39, .blk b2 [.int .i64 0] 3, .blk b1 [.pointer (some ⟨b0_0, 0, none⟩)] 39])) (L2 := (fun (s : Int) (x : (Unit) × (Unit)) => [.blk b0_0 [.int .i64 a0.f_size.f_Rows, .int .i64 a0.f_size.f_Cols, v0_1, .int .i64 a0.f_cursor] 71, .own v0_1 50 k_api_Cell a0.f_cells, .blk x4 [.pointer (some ⟨b0_0, 0, none⟩)] 39, .blk b1 [.pointer (some ⟨b0_0, 0, none⟩)] 39, .blk b2 [.int .i64 s] 3])) rfl .z4 h25 (.t .z3) (.c (.t .z) .n) rfl (env1 h10 rfl rfl) .z2 rfl rfl (fun c hD hrn => ?_) (fun s43 x44 h45 => ?_) (fun s46 x47 h48 => ?_)
      ·refine cEqC h11 (cRegion (lCh (cAlloc (cs := [.int .i64 0, .int .i64 0, vB 0]) zer_85 rfl) rfl rfl fun b29 => ?_))
       refine lChU (uStoreA (us := [.int .i64 o26.f_Start, .int .i64 o26.f_Len, vB o26.f_Attr]) (cs' := [.int .i64 o26.f_Start, .int .i64 o26.f_Len, vB o26.f_Attr]) .z siz_85 rfl (by intro u hu; simp only [List.mem_cons, List.not_mem_nil, or_false] at hu; rcases hu with rfl | rfl | rfl <;> first | rfl | assumption) rfl (by simp) (.t .z) (.t .z1)) (lKeep (.k (.d (.d (.k (.k .n))))) (lNil (xBegin hrn (Upd.s (Upd.s (Upd.s Upd.z))) (cEqC h12 (cBlock (cSeq (cJoin (S := Bool) (X := Unit) (fun (s : Bool) (x : Unit) => [(15, .bool s), (3, .pointer (some ⟨b29, 0, none⟩)), (2, .pointer (some ⟨b2, 0, none⟩)), (1, .pointer (some ⟨b1, 0, none⟩))]) (fun (s : Bool) (x : Unit) => [.obj b6 (rc fn9 T7 [6] as12 bd12 D8 .busy none), .blk b29 [.int .i64 o26.f_Start, .int .i64 o26.f_Len, vB o26.f_Attr] 85, .blk b0_0 [.int .i64 a0.f_size.f_Rows, .int .i64 a0.f_size.f_Cols, v0_1, .int .i64 a0.f_cursor] 71, .own v0_1 50 k_api_Cell a0.f_cells, .blk x4 [.pointer (some ⟨b0_0, 0, none⟩)] 39, .blk b2 [.int .i64 0] 3, .blk b1 [.pointer (some ⟨b0_0, 0, none⟩)] 39]) ?_ (fun s34 x35 => ?_))))))))
       ·refine cRegion (lR (dFld fld_85_1 (by decide) (.t .z) rfl) (lR (dLoad .z agg_3 (.t .z) rfl) (lR (dGt (.t .z) (.c rfl)) (lM .z (lCase (fun h30 => ?_) (fun h30 => ?_))))))
        ·refine lG .z (decide_eq_true h30) (dFld fld_85_2 (by decide) (.t .z4) rfl) (lG .z1 (decide_eq_true h30) (dLoad .z agg_5 (.t .z) rfl) (lCallG rfl .z2 (decide_eq_true h30) fok_68 (.c (.t .z) .n) (attr_Protected_c _) .n rfl rfl fun o31 x32 h33 => ?_))
         exact lG .z3 (decide_eq_true h30) (dNot (.t .z)) (lR (dPickT (.t .z4) (decide_eq_true h30) (.t .z)) (lKeep (.k (.d (.d (.d (.d (.d (.d (.d (.d (.k (.k (.k .n)))))))))))) (lNil (xJoin (!o31) () (.c .z (.c .z1 (.c .z2 (.c .z3 .n)))) (.c .z3 (.c .z (.c .z (.c .z (.c .z (.c .z (.c .z .nil)))))))))))
        ·exact lPass rfl .z (nbT (decide_eq_false h30)) rfl (lPass rfl .z (nbT (decide_eq_false h30)) rfl (lPass rfl .z (nbT (decide_eq_false h30)) rfl (lPass rfl .z (nbT (decide_eq_false h30)) rfl (lR (dPickF (.t .z) (decide_eq_false h30) (.c rfl)) (lKeep (.k (.d (.d (.d (.d (.k (.k (.k .n)))))))) (lNil (xJoin false () (.c .z (.c .z1 (.c .z2 (.c .z3 .n)))) (.c .z3 (.c .z (.c .z (.c .z (.c .z (.c .z (.c .z .nil))))))))))))))
       ·refine xCode (cCondB (.t .z) (fun h36 => ?_) (fun h36 => ?_))
        ·refine cSeq (cRegionM [5] [(0, .early), (1, .early), (2, .early), (3, .early), (4, .early), (5, .only)] mixed (by kernel_rfl) (.c .z (.c .z (.c .z (.c .z (.c .z (.c .z1 (.c .z .nil))))))) (.c (.c (.c (.c (.c (.c .n)))))) (mRd rfl rfl (fun _ _ _ => dLoad .z5 agg_39 (.t .z3) rfl) rfl rfl ?_))
         refine mCallQ rfl rfl fok_57 (.c (.t .z) .n) (plane_Plane_Size_c a0 b0_0 v0_1) (.c .z2 (.c .z2 .n)) (fun _ _ => rfl) (fun _ _ => (.c .z2 (.c .z2 (.c .z (.c .z (.c .z (.c .z (.c .z .nil)))))))) rfl rfl fun o37 h39 => ?_
         refine mRd rfl rfl (fun _ _ _ => dFld fld_85_0 (by decide) (.t .z3) rfl) rfl rfl ?_
         refine mRd rfl rfl (fun _ _ _ => dLoad .z1 agg_3 (.t .z) rfl) rfl rfl ?_
         refine mCallQ rfl rfl fok_75 (.c (.t .z2) (.c (.t .z) (.c (.c rfl) .n))) (addr_Move_c o37 _ 1) .n (fun _ _ => rfl) (fun _ _ => (.c .z (.c .z (.c .z (.c .z (.c .z (.c .z (.c .z .nil)))))))) rfl rfl fun o40 h42 => ?_
         exact mChU rfl rfl (uStore .z6 siz_3 rfl .z (.t .z7) (.t .z)) (.c .z (.c .z (.c .z (.c .z (.c .z (.c .z (.c .z .nil))))))) (.c (.c (.c (.c (.c (.c .n)))))) (mKeep .n (mNil (xCode (cRet (rRound2 o40 ((), ()) Upd.z (.c .z (.c .z1 (.c .z1 (.c .z1 (.c .z1 (.c .z1 .nil)))))) rfl)))))
        ·exact cSkip (xBlock (xRound1 () ((), ()) Upd.z (.c .z (.c .z1 (.c .z1 (.c .z1 (.c .z1 (.c .z1 .nil))))))))
      ·refine lG .z5 h25 (dNot (.t .z)) (lR (dPickT (.t .z6) h25 (.t .z)) (lNil (xCode (cCondF (.t .z) rfl (cSkip (xBlock (xCode (cRegion ?_))))))))
       exact lR (dAddI (.t .z15) (.c rfl)) (lRdK (dMove (.t .z)) (.k (.k (.k (.k (.k (.k (.k (.k (.k (.k (.k (.k (.k (.k (.k (.k (.d (Keep.refl _)))))))))))))))))) rfl rfl (lNil (xRound h20 (w64 (s16 + 1)) () (.c .z (.c .z17 (.c .z18 (.c .z19 .n)))) (.c .z (.c .z (.c .z (.c .z (.c .z (.c .z .nil)))))))))
      ·exact lG .z5 h25 (dNot (.t .z)) (lR (dPickT (.t .z6) h25 (.t .z)) (lNil (xCode (cCondT (.t .z) rfl (cRet (rInner (rDone (rs := []) rfl .n hD ((), ()) rfl (.c .z (.c .z (.c .z (.c .z (.c .z (.c .z .nil)))))))))))))
     ·refine lPass rfl .z (nbT (Bool.eq_false_iff.mpr h25)) rfl (lPass rfl .z (nbT (Bool.eq_false_iff.mpr h25)) rfl (lPass rfl .z (nbT (Bool.eq_false_iff.mpr h25)) rfl (lPass rfl .z (nbT (Bool.eq_false_iff.mpr h25)) rfl (lPass rfl .z (nbT (Bool.eq_false_iff.mpr h25)) rfl (lPass rfl .z (nbT (Bool.eq_false_iff.mpr h25)) rfl (lR (dPickF (.t .z) (Bool.eq_false_iff.mpr h25) (.c rfl)) (lNil (xCode ?_))))))))
      exact cCondF (.t .z) rfl (cSkip (xBlock (xCode (cRegion (lR (dAddI (.t .z9) (.c rfl)) (lRdK (dMove (.t .z)) (.k (.k (.k (.k (.k (.k (.k (.k (.k (.k (.d (Keep.refl _)))))))))))) rfl rfl (lNil (xRound h20 (w64 (s16 + 1)) () (.c .z (.c .z11 (.c .z12 (.c .z13 .n)))) (.c .z2 (.c .z (.c .z (.c .z (.c .z (.c .z .nil))))))))))))))
    ·exact cExit (xOver (xOverF (xBreakR () () .n (.c .z (.c .z (.c .z (.c .z (.c .z (.c .z .nil)))))))))
   ·exact xDone (rs := []) rfl .n hD ((), ()) rfl (.c .z (.c .z (.c .z (.c .z (.c .z (.c .z .nil))))))
  ·refine xBlock (xCode (cSeq (cRegion (lChU (uStore .z4 siz_3 rfl .z (.t .z1) (.c rfl)) (lKeep (.d (.k .n)) (lNil (xCode (cRet ?_))))))))
   exact rLeave (congrArg (List.cons _) hD) (lvMark Upd.z (by simp) (lvRet (rs := [.cell 2 3]) rfl (.s .z .z4 agg_3 .n) () rfl (.c .z1 (.c .z1 .nil))))
  ·exact cRet (rLeave (congrArg (List.cons _) hD) (lvMark Upd.z (by simp) (lvRet (rs := [.cell 2 3]) rfl (.s (.s .z) .z5 agg_3 .n) () rfl (.c .z1 (.c .z1 .nil)))))

-- greenscreen/caret.Home
def caret_Home_m (K : Nat) (a0 : plane_Plane) : Option (plane_Plane × Int) := (field_Home_m K a0).bind fun o1 => (caret_to_m a0 o1).bind fun o4 => some (o4.1, o4.2)
theorem caret_Home_c (K : Nat) (a0 : plane_Plane) (b0_0 : Nat) (v0_1 : Value) : Con Tryd.prog 40 #[.pointer (some ⟨b0_0, 0, none⟩)] [.blk b0_0 [.int .i64 a0.f_size.f_Rows, .int .i64 a0.f_size.f_Cols, v0_1, .int .i64 a0.f_cursor] 71, .own v0_1 50 k_api_Cell a0.f_cells] (caret_Home_m K a0) (fun (o : plane_Plane × Int) (x : Unit) => .int .i64 o.2) (fun (o : plane_Plane × Int) (x : Unit) => [.blk b0_0 [.int .i64 o.1.f_size.f_Rows, .int .i64 o.1.f_size.f_Cols, v0_1, .int .i64 o.1.f_cursor] 71, .own v0_1 50 k_api_Cell o.1.f_cells]) := by
  unfold caret_Home_m
  refine con (args := [.pointer (some ⟨b0_0, 0, none⟩)]) Tryd.func40 rfl 7 rfl (.c .n) rfl fun c hD hrn => ?_
  refine cSeq (cRegion (lR (dAssign (.c rfl)) (lNil (xCode (cSeq (cRegion (lM .z1 (lM .z2 ?_))))))))
  refine lCall fok_60 (.c (.t .z) .n) (field_Home_c K a0 b0_0 v0_1) (.c .z (.c .z .n)) rfl rfl fun o1 x2 h3 => ?_
  refine lCall fok_50 (.c (.t .z2) (.c (.t .z) .n)) (caret_to_c a0 o1 b0_0 v0_1) (.c .z (.c .z .n)) rfl rfl fun o4 x5 h6 => ?_
  exact lAK .z (.k (.k (.k (.k (.d (Keep.refl _)))))) (lKeep (.k .n) (lNil (xCode (cRet (rLeave hD (lvRet (rs := [.tmp 2]) rfl (.t .z .n) () rfl (.c .z (.c .z .nil))))))))

-- greenscreen/caret.Move
def caret_Move_m (a0 : plane_Plane) (a1 : Int) (a2 : Int) : Option (plane_Plane × Int) := (plane_Plane_Size_m a0).bind fun o1 => (plane_Plane_Cursor_m a0).bind fun o5 => (if o1.f_Rows ≠ 0 then (caret_by_m a0 o5 (w64 ((Int.tmod a1 o1.f_Rows) * o1.f_Cols))).bind fun o9 => (caret_by_m a0 o9 a2).bind fun o12 => (caret_to_m a0 o12).bind fun o15 => some (o15.1, o15.2) else none)
theorem caret_Move_c (a0 : plane_Plane) (a1 : Int) (a2 : Int) (b0_0 : Nat) (v0_1 : Value) : Con Tryd.prog 41 #[.pointer (some ⟨b0_0, 0, none⟩), .int .i64 a1, .int .i64 a2] [.blk b0_0 [.int .i64 a0.f_size.f_Rows, .int .i64 a0.f_size.f_Cols, v0_1, .int .i64 a0.f_cursor] 71, .own v0_1 50 k_api_Cell a0.f_cells] (caret_Move_m a0 a1 a2) (fun (o : plane_Plane × Int) (x : Unit) => .int .i64 o.2) (fun (o : plane_Plane × Int) (x : Unit) => [.blk b0_0 [.int .i64 o.1.f_size.f_Rows, .int .i64 o.1.f_size.f_Cols, v0_1, .int .i64 o.1.f_cursor] 71, .own v0_1 50 k_api_Cell o.1.f_cells]) := by
  unfold caret_Move_m
  refine con (args := [.pointer (some ⟨b0_0, 0, none⟩), .int .i64 a1, .int .i64 a2]) Tryd.func41 rfl 26 rfl (.c (.c (.c .n))) rfl fun c hD hrn => ?_
  refine cSeq (cRegion (lR (dAssign (.c rfl)) (lNil (xCode (cSeq (cRegion (lM .z1 (lCall fok_57 (.c (.t .z) .n) (plane_Plane_Size_c a0 b0_0 v0_1) (.c .z (.c .z .n)) rfl rfl fun o1 x2 h3 => ?_))))))))
  refine lCh (cAlloc (cs := [.int .i64 0, .int .i64 0]) zer_34 rfl) rfl rfl fun b4 => ?_
  refine lChU (uStoreA (us := [.int .i64 o1.f_Rows, .int .i64 o1.f_Cols]) (cs' := [.int .i64 o1.f_Rows, .int .i64 o1.f_Cols]) .z siz_34 rfl (by intro u hu; simp only [List.mem_cons, List.not_mem_nil, or_false] at hu; rcases hu with rfl | rfl <;> first | rfl | assumption) rfl (by simp) (.t .z) (.t .z1)) (lKeep (.k (.d (.d (.k (.k (.k (.k .n))))))) (lNil (xCode (cSeq (cRegionM [15] [(0, .early), (1, .early), (2, .early), (3, .early), (4, .early), (5, .early), (6, .early), (7, .early), (8, .early), (9, .early), (10, .early), (11, .early), (12, .early), (13, .early), (14, .early), (15, .only), (16, .quiet)] mixed (by kernel_rfl) (.c .z (.c .z (.c .z .nil))) (.c .n) ?_)))))
  refine mRd rfl rfl (fun _ _ _ => dMove (.t .z2)) rfl rfl ?_
  refine mRd rfl rfl (fun _ _ _ => dMove (.t .z3)) rfl rfl ?_
  refine mRd rfl rfl (fun _ _ _ => dMove (.t .z4)) rfl rfl ?_
  refine mRd rfl rfl (fun _ _ _ => dMove (.t .z5)) rfl rfl ?_
  refine mCallQ rfl rfl fok_52 (.c (.t .z) .n) (plane_Plane_Cursor_c a0 b0_0 v0_1) (.c .z1 (.c .z1 .n)) (fun _ _ => rfl) (fun _ _ => (.c .z2 (.c .z (.c .z .nil)))) rfl rfl fun o5 h7 => ?_
  refine mRd rfl rfl (fun _ _ _ => dMove (.t .z8)) rfl rfl ?_
  refine mRd rfl rfl (fun _ _ _ => dFld fld_34_0 (by decide) (.t .z6) rfl) rfl rfl ?_
  refine mRd rfl rfl (fun _ _ _ => dLoad .z agg_3 (.t .z) rfl) rfl rfl ?_
  refine mGuard fun h8 => ?_
  refine mRd rfl rfl (fun _ _ _ => dRem (.t .z2) (.t .z) h8) rfl rfl ?_
  refine mRd rfl rfl (fun _ _ _ => dFld fld_34_1 (by decide) (.t .z9) rfl) rfl rfl ?_
  refine mRd rfl rfl (fun _ _ _ => dLoad .z agg_3 (.t .z) rfl) rfl rfl ?_
  refine mRd rfl rfl (fun _ _ _ => dMulI (.t .z2) (.t .z)) rfl rfl ?_
  refine mCallQ rfl rfl fok_55 (.c (.t .z9) (.c (.t .z7) (.c (.t .z) .n))) (caret_by_c a0 o5 _ b0_0 v0_1) (.c .z1 (.c .z1 .n)) (fun _ _ => rfl) (fun _ _ => (.c .z2 (.c .z (.c .z .nil)))) rfl rfl fun o9 h11 => ?_
  refine mRd rfl rfl (fun _ _ _ => dMove (.t .z17)) rfl rfl ?_
  refine mCallQ rfl rfl fok_55 (.c (.t .z12) (.c (.t .z1) (.c (.t .z) .n))) (caret_by_c a0 o9 a2 b0_0 v0_1) (.c .z1 (.c .z1 .n)) (fun _ _ => rfl) (fun _ _ => (.c .z2 (.c .z (.c .z .nil)))) rfl rfl fun o12 h14 => ?_
  refine mCall rfl rfl fok_50 (.c (.t .z14) (.c (.t .z) .n)) (caret_to_c a0 o12 b0_0 v0_1) (.c .z1 (.c .z1 .n)) (fun o15 x16 => (.c .z2 (.c .z (.c .z .nil)))) (fun _ _ => (.c .n)) rfl rfl fun o15 x16 h17  => ?_
  refine mRdK rfl rfl (fun _ _ _ => dAssign (.t .z)) (.k (.k (.k (.k (.k (.k (.k (.k (.k (.k (.k (.k (.k (.k (.k (.k (.k (.d (Keep.refl _))))))))))))))))))) rfl rfl ?_
  exact mKeep (.k .n) (mNil (xCode (cRet (rLeave hD (lvRet (rs := [.tmp 6]) rfl (.t .z .n) () rfl (.c .z1 (.c .z1 .nil)))))))

-- greenscreen/keyboard.move
def keyboard_move_m (K : Nat) (a0 : plane_Plane) (a1 : Int) : Option (plane_Plane × Bool) := (if a1 = 2 then (caret_Tab_m K a0).bind fun o2 => some (o2.1, true) else (if a1 = 3 then (caret_Back_m K a0).bind fun o6 => some (o6.1, true) else (if a1 = 4 then (caret_Newline_m K a0).bind fun o10 => some (o10.1, true) else (if a1 = 5 then (caret_Home_m K a0).bind fun o14 => some (o14.1, true) else (if a1 = 6 then (caret_Move_m a0 (-1) 0).bind fun o18 => some (o18.1, true) else (if a1 = 7 then (caret_Move_m a0 1 0).bind fun o22 => some (o22.1, true) else (if a1 = 8 then (caret_Move_m a0 0 (-1)).bind fun o26 => some (o26.1, true) else (if a1 = 9 then (caret_Move_m a0 0 1).bind fun o30 => some (o30.1, true) else some (a0, false)))))))))
theorem keyboard_move_c (K : Nat) (a0 : plane_Plane) (a1 : Int) (b0_0 : Nat) (v0_1 : Value) : Con Tryd.prog 27 #[.pointer (some ⟨b0_0, 0, none⟩), .int .i64 a1] [.blk b0_0 [.int .i64 a0.f_size.f_Rows, .int .i64 a0.f_size.f_Cols, v0_1, .int .i64 a0.f_cursor] 71, .own v0_1 50 k_api_Cell a0.f_cells] (keyboard_move_m K a0 a1) (fun (o : plane_Plane × Bool) (x : Unit) => .bool o.2) (fun (o : plane_Plane × Bool) (x : Unit) => [.blk b0_0 [.int .i64 o.1.f_size.f_Rows, .int .i64 o.1.f_size.f_Cols, v0_1, .int .i64 o.1.f_cursor] 71, .own v0_1 50 k_api_Cell o.1.f_cells]) := by
  unfold keyboard_move_m
  refine con (args := [.pointer (some ⟨b0_0, 0, none⟩), .int .i64 a1]) Tryd.func27 rfl 38 rfl (.c (.c .n)) rfl fun c hD hrn => ?_
  refine cSeq (cRegion (lR (dAssign (.c rfl)) (lNil (xCode (cSeq (cSeq (cRegion (lM .z2 ?_))))))))
  refine lKeep (.k (.k (.k .n))) (lNil (xCode (cBlock (cSeq (cRegion (lR (dEq (.t .z) (.c rfl)) (lA .z (lKeep (.k (.d (.k (.k (.k .n))))) ?_))))))))
  refine lNil (xCode (cCond (.t .z) (fun h1 => ?_) (fun h1 => ?_)))
  ·refine cRegion (lM .z3 (lCallN fok_37 (.c (.t .z) .n) (caret_Tab_c K a0 b0_0 v0_1) (.c .z (.c .z .n)) rfl fun o2 x3 h4 => ?_))
   refine lKeep (.d (.d (.d (.k .n)))) (lNil (xBlock (xCode (cSeq (cRegion (lRdK (dAssign (.c rfl)) (.d (Keep.refl _)) rfl rfl (lNil (xCode ?_))))))))
   exact cRet (rLeave hD (lvRet (rs := [.tmp 4]) rfl (.t .z .n) () rfl (.c .z (.c .z .nil))))
  ·refine cSeq (cRegion (lR (dEq (.t .z1) (.c rfl)) (lA .z (lKeep (.k (.d (.d (.k (.k (.k .n)))))) (lNil (xCode (cCond (.t .z) (fun h5 => ?_) (fun h5 => ?_))))))))
   ·refine cRegion (lM .z3 (lCallN fok_38 (.c (.t .z) .n) (caret_Back_c K a0 b0_0 v0_1) (.c .z (.c .z .n)) rfl fun o6 x7 h8 => ?_))
    refine lKeep (.d (.d (.d (.k .n)))) (lNil (xBlock (xCode (cSeq (cRegion (lRdK (dAssign (.c rfl)) (.d (Keep.refl _)) rfl rfl (lNil (xCode ?_))))))))
    exact cRet (rLeave hD (lvRet (rs := [.tmp 4]) rfl (.t .z .n) () rfl (.c .z (.c .z .nil))))
   ·refine cSeq (cRegion (lR (dEq (.t .z1) (.c rfl)) (lA .z (lKeep (.k (.d (.d (.k (.k (.k .n)))))) (lNil (xCode (cCond (.t .z) (fun h9 => ?_) (fun h9 => ?_))))))))
    ·refine cRegion (lM .z3 (lCallN fok_39 (.c (.t .z) .n) (caret_Newline_c K a0 b0_0 v0_1) (.c .z (.c .z .n)) rfl fun o10 x11 h12 => ?_))
     refine lKeep (.d (.d (.d (.k .n)))) (lNil (xBlock (xCode (cSeq (cRegion (lRdK (dAssign (.c rfl)) (.d (Keep.refl _)) rfl rfl (lNil (xCode ?_))))))))
     exact cRet (rLeave hD (lvRet (rs := [.tmp 4]) rfl (.t .z .n) () rfl (.c .z (.c .z .nil))))
    ·refine cSeq (cRegion (lR (dEq (.t .z1) (.c rfl)) (lA .z (lKeep (.k (.d (.d (.k (.k (.k .n)))))) (lNil (xCode (cCond (.t .z) (fun h13 => ?_) (fun h13 => ?_))))))))
     ·refine cRegion (lM .z3 (lCallN fok_40 (.c (.t .z) .n) (caret_Home_c K a0 b0_0 v0_1) (.c .z (.c .z .n)) rfl fun o14 x15 h16 => ?_))
      refine lKeep (.d (.d (.d (.k .n)))) (lNil (xBlock (xCode (cSeq (cRegion (lRdK (dAssign (.c rfl)) (.d (Keep.refl _)) rfl rfl (lNil (xCode ?_))))))))
      exact cRet (rLeave hD (lvRet (rs := [.tmp 4]) rfl (.t .z .n) () rfl (.c .z (.c .z .nil))))
     ·refine cSeq (cRegion (lR (dEq (.t .z1) (.c rfl)) (lA .z (lKeep (.k (.d (.d (.k (.k (.k .n)))))) (lNil (xCode (cCond (.t .z) (fun h17 => ?_) (fun h17 => ?_))))))))
      ·refine cRegion (lM .z3 (lCallN fok_41 (.c (.t .z) (.c (.c rfl) (.c (.c rfl) .n))) (caret_Move_c a0 _ 0 b0_0 v0_1) (.c .z (.c .z .n)) rfl fun o18 x19 h20 => ?_))
       refine lKeep (.d (.d (.d (.k .n)))) (lNil (xBlock (xCode (cSeq (cRegion (lRdK (dAssign (.c rfl)) (.d (Keep.refl _)) rfl rfl (lNil (xCode ?_))))))))
       exact cRet (rLeave hD (lvRet (rs := [.tmp 4]) rfl (.t .z .n) () rfl (.c .z (.c .z .nil))))
      ·refine cSeq (cRegion (lR (dEq (.t .z1) (.c rfl)) (lA .z (lKeep (.k (.d (.d (.k (.k (.k .n)))))) (lNil (xCode (cCond (.t .z) (fun h21 => ?_) (fun h21 => ?_))))))))
       ·refine cRegion (lM .z3 (lCallN fok_41 (.c (.t .z) (.c (.c rfl) (.c (.c rfl) .n))) (caret_Move_c a0 1 0 b0_0 v0_1) (.c .z (.c .z .n)) rfl fun o22 x23 h24 => ?_))
        refine lKeep (.d (.d (.d (.k .n)))) (lNil (xBlock (xCode (cSeq (cRegion (lRdK (dAssign (.c rfl)) (.d (Keep.refl _)) rfl rfl (lNil (xCode ?_))))))))
        exact cRet (rLeave hD (lvRet (rs := [.tmp 4]) rfl (.t .z .n) () rfl (.c .z (.c .z .nil))))
       ·refine cSeq (cRegion (lR (dEq (.t .z1) (.c rfl)) (lA .z (lKeep (.k (.d (.d (.k (.k (.k .n)))))) (lNil (xCode (cCond (.t .z) (fun h25 => ?_) (fun h25 => ?_))))))))
        ·refine cRegion (lM .z3 (lCallN fok_41 (.c (.t .z) (.c (.c rfl) (.c (.c rfl) .n))) (caret_Move_c a0 0 _ b0_0 v0_1) (.c .z (.c .z .n)) rfl fun o26 x27 h28 => ?_))
         refine lKeep (.d (.d (.d (.k .n)))) (lNil (xBlock (xCode (cSeq (cRegion (lRdK (dAssign (.c rfl)) (.d (Keep.refl _)) rfl rfl (lNil (xCode ?_))))))))
         exact cRet (rLeave hD (lvRet (rs := [.tmp 4]) rfl (.t .z .n) () rfl (.c .z (.c .z .nil))))
        ·refine cSeq (cRegion (lR (dEq (.t .z1) (.c rfl)) (lA .z (lKeep (.k (.d (.d (.d (.k (.k .n)))))) (lNil (xCode (cCond (.t .z) (fun h29 => ?_) (fun h29 => ?_))))))))
         ·refine cRegion (lM .z2 (lCallN fok_41 (.c (.t .z) (.c (.c rfl) (.c (.c rfl) .n))) (caret_Move_c a0 0 1 b0_0 v0_1) (.c .z (.c .z .n)) rfl fun o30 x31 h32 => ?_))
          refine lKeep (.d (.d (.k .n))) (lNil (xBlock (xCode (cSeq (cRegion (lRdK (dAssign (.c rfl)) (.d (Keep.refl _)) rfl rfl (lNil (xCode ?_))))))))
          exact cRet (rLeave hD (lvRet (rs := [.tmp 4]) rfl (.t .z .n) () rfl (.c .z (.c .z .nil))))
         ·exact cSeq (cRegion (lRdK (dAssign (.c rfl)) (.k (.d (Keep.refl _))) rfl rfl (lKeep (.k .n) (lNil (xCode (cRet (rLeave hD (lvRet (rs := [.tmp 4]) rfl (.t .z .n) () rfl (.c .z (.c .z .nil))))))))))

-- (*greenscreen/lock.Lock).Fail
def lock_Lock_Fail_m (a0 : lock_Lock) (a1 : Int) : Option (lock_Lock × Int) := (lock_Lock_May_m a0).bind fun o1 => (if o1 ≠ 0 then some (a0, o1) else (if a1 ≠ 0 then (lock_Lock_turn_m a0 3 a1).bind fun o6 => some (o6, a1) else some (a0, a1)))
theorem lock_Lock_Fail_c (a0 : lock_Lock) (a1 : Int) (b0_0 : Nat) : Con Tryd.prog 28 #[.pointer (some ⟨b0_0, 0, none⟩), .int .i64 a1] [.blk b0_0 [.int .i64 a0.f_state, .int .i64 a0.f_why, .int .i64 a0.f_turns] 59] (lock_Lock_Fail_m a0 a1) (fun (o : lock_Lock × Int) (x : Unit) => .int .i64 o.2) (fun (o : lock_Lock × Int) (x : Unit) => [.blk b0_0 [.int .i64 o.1.f_state, .int .i64 o.1.f_why, .int .i64 o.1.f_turns] 59]) := by
  unfold lock_Lock_Fail_m
  refine con (args := [.pointer (some ⟨b0_0, 0, none⟩), .int .i64 a1]) Tryd.func28 rfl 17 rfl (.c (.c .n)) rfl fun c hD hrn => ?_
  refine cSeq (cRegion (lR (dAssign (.c rfl)) (lNil (xCode (cSeq (cSeq (cRegion (lM .z1 ?_))))))))
  refine lCall fok_24 (.c (.t .z) .n) (lock_Lock_May_c a0 b0_0) (.c .z .n) rfl rfl fun o1 x2 h3 => ?_
  refine lA .z (lKeep (.k (.d (.d (.k (.k (.k .n)))))) (lNil (xCode (cSeq (cRegion (lM .z (lR (dNe (.t .z) (.c rfl)) (lKeep (.k (.d (.k (.k (.k (.k .n)))))) ?_))))))))
  refine lNil (xCode (cCond (.t .z) (fun h4 => ?_) (fun h4 => ?_)))
  ·refine cSeq (cRegion (lM .z1 (lAK .z (.k (.k (.k (.d (Keep.refl _))))) (lKeep (.k (.d (.d (.d (.k (.k .n)))))) (lNil (xCode (cRet (rLeave hD ?_))))))))
   exact lvRet (rs := [.tmp 4]) rfl (.t .z .n) () rfl (.c .z .nil)
  ·refine cSkip (xCode (cSeq (cSeq (cRegion (lM .z4 (lR (dNe (.t .z) (.c rfl)) (lKeep (.k (.d (.d (.d (.k (.k (.k .n))))))) (lNil ?_))))))))
   refine xCode (cCond (.t .z) (fun h5 => ?_) (fun h5 => ?_))
   ·refine cRegion (lM .z2 (lM .z4 (lCallN fok_30 (.c (.t .z1) (.c (.c rfl) (.c (.t .z) .n))) (lock_Lock_turn_c a0 3 a1 b0_0) (.c .z .n) rfl fun o6 x7 h8 => ?_)))
    refine lKeep (.d (.d (.d (.k (.d (.k .n)))))) (lNil (xCode (cSeq (cRegion (lM .z1 (lAK .z (.k (.d (Keep.refl _))) (lKeep (.k .n) (lNil ?_))))))))
    exact xCode (cRet (rLeave hD (lvRet (rs := [.tmp 4]) rfl (.t .z .n) () rfl (.c .z .nil))))
   ·refine cSkip (xCode (cSeq (cRegion (lM .z3 (lAK .z (.k (.k (.d (Keep.refl _)))) (lKeep (.k .n) (lNil (xCode ?_))))))))
    exact cRet (rLeave hD (lvRet (rs := [.tmp 4]) rfl (.t .z .n) () rfl (.c .z .nil)))

-- greenscreen/attr.Numeric
def attr_Numeric_m (a0 : UInt8) : Option (Bool) := some (decide ((a0 &&& (16 : UInt8)) ≠ (0 : UInt8)))
theorem attr_Numeric_c (a0 : UInt8) : Con Tryd.prog 76 #[vB a0] [] (attr_Numeric_m a0) (fun (o : Bool) (x : Unit) => .bool o) (fun (o : Bool) (x : Unit) => []) := by
  unfold attr_Numeric_m
  refine con (args := [vB a0]) Tryd.func76 rfl 6 rfl (.c .n) rfl fun c hD hrn => ?_
  refine cSeq (cRegion (lR (dAssign (.c rfl)) (lNil (xCode (cSeq (cRegion (lM .z1 (lR (dAndB (.t .z) (.c (v' := vB 16) rfl)) ?_))))))))
  exact lR (dNeB (.t .z) (.c (v' := vB 0) rfl)) (lAK .z (.k (.k (.k (.d (Keep.refl _))))) (lKeep (.k .n) (lNil (xCode (cRet (rLeave hD (lvRet (rs := [.tmp 2]) rfl (.t .z .n) () rfl .nil)))))))

-- greenscreen/code.Digit
def code_Digit_m (a0 : UInt8) : Option (Bool) := (if a0 ≥ (240 : UInt8) then some (decide (a0 ≤ (249 : UInt8))) else some false)
theorem code_Digit_c (a0 : UInt8) : Con Tryd.prog 91 #[vB a0] [] (code_Digit_m a0) (fun (o : Bool) (x : Unit) => .bool o) (fun (o : Bool) (x : Unit) => []) := by
  unfold code_Digit_m
  refine con (args := [vB a0]) Tryd.func91 rfl 9 rfl (.c .n) rfl fun c hD hrn => ?_
  refine cSeq (cRegion (lR (dAssign (.c rfl)) (lNil (xCode (cSeq (cRegion (lM .z1 (lR (dGeB (.t .z) (.c (v' := vB 240) rfl)) ?_))))))))
  refine lM .z (lCase (fun h1 => ?_) (fun h1 => ?_))
  ·refine lG .z (decide_eq_true h1) (dMove (.t .z4)) (lG .z1 (decide_eq_true h1) (dLeB (.t .z) (.c (v' := vB 249) rfl)) (lR (dPickT (.t .z2) (decide_eq_true h1) (.t .z)) (lAK .z (.k (.k (.k (.k (.k (.k (.d (Keep.refl _)))))))) (lKeep (.k .n) (lNil (xCode (cRet (rLeave hD ?_))))))))
   exact lvRet (rs := [.tmp 2]) rfl (.t .z .n) () rfl .nil
  ·refine lPass rfl .z (nbT (decide_eq_false h1)) rfl (lPass rfl .z (nbT (decide_eq_false h1)) rfl (lR (dPickF (.t .z) (decide_eq_false h1) (.c rfl)) (lAK .z (.k (.k (.k (.k (.d (Keep.refl _)))))) (lKeep (.k .n) (lNil (xCode (cRet (rLeave hD ?_))))))))
   exact lvRet (rs := [.tmp 2]) rfl (.t .z .n) () rfl .nil

-- greenscreen/typing.number
def typing_number_m (a0 : UInt8) : Option (Bool) := (code_Digit_m a0).bind fun o1 => (if o1 = true then some true else (if a0 = (75 : UInt8) then some true else (if a0 = (96 : UInt8) then some true else some (decide (a0 = (28 : UInt8))))))
theorem typing_number_c (a0 : UInt8) : Con Tryd.prog 77 #[vB a0] [] (typing_number_m a0) (fun (o : Bool) (x : Unit) => .bool o) (fun (o : Bool) (x : Unit) => []) := by
  unfold typing_number_m
  refine con (args := [vB a0]) Tryd.func77 rfl 17 rfl (.c .n) rfl fun c hD hrn => ?_
  refine cSeq (cRegion (lR (dAssign (.c rfl)) (lNil (xCode (cSeq (cRegion (lM .z1 (lCall fok_91 (.c (.t .z) .n) (code_Digit_c a0) .n rfl rfl fun o1 x2 h3 => ?_))))))))
  refine lM .z (lCase (fun h4 => ?_) (fun h4 => ?_))
  ·refine lPass rfl .z (nbF h4) rfl (lPass rfl .z (nbF h4) rfl (lR (dPickT (.t .z) h4 (.c rfl)) (lM .z (lPass rfl .z (nbF rfl) rfl (lPass rfl .z (nbF rfl) rfl (lR (dPickT (.t .z) rfl (.c rfl)) (lM .z (lPass rfl .z (nbF rfl) rfl ?_))))))))
   exact lPass rfl .z (nbF rfl) rfl (lR (dPickT (.t .z) rfl (.c rfl)) (lAK .z (.k (.k (.k (.k (.k (.k (.k (.k (.d (Keep.refl _)))))))))) (lKeep (.k .n) (lNil (xCode (cRet (rLeave hD (lvRet (rs := [.tmp 2]) rfl (.t .z .n) () rfl .nil))))))))
  ·refine lG .z (Bool.eq_false_iff.mpr h4) (dMove (.t .z4)) (lG .z1 (Bool.eq_false_iff.mpr h4) (dEqB (.t .z) (.c (v' := vB 75) rfl)) (lR (dPickF (.t .z2) (Bool.eq_false_iff.mpr h4) (.t .z)) (lM .z (lCase (fun h5 => ?_) (fun h5 => ?_)))))
   ·refine lPass rfl .z (nbF (decide_eq_true h5)) rfl (lPass rfl .z (nbF (decide_eq_true h5)) rfl (lR (dPickT (.t .z) (decide_eq_true h5) (.c rfl)) (lM .z (lPass rfl .z (nbF rfl) rfl (lPass rfl .z (nbF rfl) rfl (lR (dPickT (.t .z) rfl (.c rfl)) (lAK .z (.k (.k (.k (.k (.k (.k (.k (.k (.k (.k (.d (Keep.refl _)))))))))))) (lKeep (.k .n) ?_))))))))
    exact lNil (xCode (cRet (rLeave hD (lvRet (rs := [.tmp 2]) rfl (.t .z .n) () rfl .nil))))
   ·refine lG .z (decide_eq_false h5) (dMove (.t .z8)) (lG .z1 (decide_eq_false h5) (dEqB (.t .z) (.c (v' := vB 96) rfl)) (lR (dPickF (.t .z2) (decide_eq_false h5) (.t .z)) (lM .z (lCase (fun h6 => ?_) (fun h6 => ?_)))))
    ·refine lPass rfl .z (nbF (decide_eq_true h6)) rfl (lPass rfl .z (nbF (decide_eq_true h6)) rfl (lR (dPickT (.t .z) (decide_eq_true h6) (.c rfl)) (lAK .z (.k (.k (.k (.k (.k (.k (.k (.k (.k (.k (.k (.k (.d (Keep.refl _)))))))))))))) (lKeep (.k .n) (lNil (xCode (cRet (rLeave hD ?_))))))))
     exact lvRet (rs := [.tmp 2]) rfl (.t .z .n) () rfl .nil
    ·refine lG .z (decide_eq_false h6) (dMove (.t .z12)) (lG .z1 (decide_eq_false h6) (dEqB (.t .z) (.c (v' := vB 28) rfl)) (lR (dPickF (.t .z2) (decide_eq_false h6) (.t .z)) (lAK .z (.k (.k (.k (.k (.k (.k (.k (.k (.k (.k (.k (.k (.k (.k (.d (Keep.refl _)))))))))))))))) (lKeep (.k .n) (lNil (xCode (cRet (rLeave hD ?_))))))))
     exact lvRet (rs := [.tmp 2]) rfl (.t .z .n) () rfl .nil

-- greenscreen/typing.may
def typing_may_m (K : Nat) (a0 : plane_Plane) (a1 : UInt8) : Option (Int) := (plane_Plane_Cursor_m a0).bind fun o1 => (field_Of_m K a0 o1).bind fun o4 => (plane_Plane_Cursor_m a0).bind fun o8 => (field_Open_m K a0 o8).bind fun o11 => (if (!o11) = true then some 41 else ((if o4.2 = true then (attr_Numeric_m o4.1.f_Attr).bind fun o16 => (if o16 = true then (typing_number_m a1).bind fun o20 => some (!o20) else some false) else some false)).bind fun (s23 : Bool) => (if s23 = true then some 42 else some 0))
theorem typing_may_c (K : Nat) (a0 : plane_Plane) (a1 : UInt8) (b0_0 : Nat) (v0_1 : Value) : Con Tryd.prog 61 #[.pointer (some ⟨b0_0, 0, none⟩), vB a1] [.blk b0_0 [.int .i64 a0.f_size.f_Rows, .int .i64 a0.f_size.f_Cols, v0_1, .int .i64 a0.f_cursor] 71, .own v0_1 50 k_api_Cell a0.f_cells] (typing_may_m K a0 a1) (fun (o : Int) (x : Unit) => .int .i64 o) (fun (o : Int) (x : Unit) => [.blk b0_0 [.int .i64 a0.f_size.f_Rows, .int .i64 a0.f_size.f_Cols, v0_1, .int .i64 a0.f_cursor] 71, .own v0_1 50 k_api_Cell a0.f_cells]) := by
  unfold typing_may_m
  refine con (args := [.pointer (some ⟨b0_0, 0, none⟩), vB a1]) Tryd.func61 rfl 32 rfl (.c (.c .n)) rfl fun c hD hrn => ?_
  refine cSeq (cRegion (lR (dAssign (.c rfl)) (lNil (xCode (cSeq (cRegion (lM .z1 (lM .z2 ?_))))))))
  refine lCall fok_52 (.c (.t .z) .n) (plane_Plane_Cursor_c a0 b0_0 v0_1) (.c .z (.c .z .n)) rfl rfl fun o1 x2 h3 => ?_
  refine lCall fok_53 (.c (.t .z2) (.c (.t .z) .n)) (field_Of_c K a0 o1 b0_0 v0_1) (.c .z (.c .z .n)) rfl rfl fun o4 x5 h6 => ?_
  refine lM .z (lR (dExtract (.t .z) rfl) (lR (dExtract (.t .z1) rfl) (lCh (cAlloc (cs := [.int .i64 0, .int .i64 0, vB 0]) zer_85 rfl) rfl rfl fun b7 => ?_)))
  refine lChU (uStoreA (us := [.int .i64 o4.1.f_Start, .int .i64 o4.1.f_Len, vB o4.1.f_Attr]) (cs' := [.int .i64 o4.1.f_Start, .int .i64 o4.1.f_Len, vB o4.1.f_Attr]) .z siz_85 rfl (by intro u hu; simp only [List.mem_cons, List.not_mem_nil, or_false] at hu; rcases hu with rfl | rfl | rfl <;> first | rfl | assumption) rfl (by simp) (.t .z) (.t .z2)) (lA .z1 (lKeep (.k (.k (.d (.d (.d (.d (.d (.d (.d (.k (.k (.k .n)))))))))))) (lNil (xCode (cSeq (cBlock (cSeq (cRegion ?_))))))))
  refine lM .z3 (lM .z4 (lCall fok_52 (.c (.t .z) .n) (plane_Plane_Cursor_c a0 b0_0 v0_1) (.c .z1 (.c .z1 .n)) rfl rfl fun o8 x9 h10 => ?_))
  refine lCall fok_59 (.c (.t .z2) (.c (.t .z) .n)) (field_Open_c K a0 o8 b0_0 v0_1) (.c .z (.c .z .n)) rfl rfl fun o11 x12 h13 => ?_
  refine lR (dNot (.t .z)) (lA .z (lKeep (.k (.d (.d (.d (.d (.d (.k (.k (.k (.d (.k .n))))))))))) (lNil (xCode (cCondB (.t .z) (fun h14 => ?_) (fun h14 => ?_))))))
  ·exact cSeq (cRegion (lRdK (dAssign (.c rfl)) (.k (.k (.k (.d (Keep.refl _))))) rfl rfl (lKeep (.k .n) (lNil (xCode (cRet (rLeave hD (lvRet (rs := [.tmp 4]) rfl (.t .z .n) () rfl (.c .z (.c .z .nil))))))))))
  ·refine cSeq (cJoin (S := Bool) (X := Unit) (fun (s : Bool) (x : Unit) => [(20, .bool s), (4, .int .i64 0)]) (fun (s : Bool) (x : Unit) => [.blk b0_0 [.int .i64 a0.f_size.f_Rows, .int .i64 a0.f_size.f_Cols, v0_1, .int .i64 a0.f_cursor] 71, .own v0_1 50 k_api_Cell a0.f_cells, .blk b7 [.int .i64 o4.1.f_Start, .int .i64 o4.1.f_Len, vB o4.1.f_Attr] 85]) ?_ (fun s23 x24 => ?_))
   ·refine cRegion (lM .z1 (lM .z (lCase (fun h15 => ?_) (fun h15 => ?_))))
    ·refine lG .z h15 (dFld fld_85_2 (by decide) (.t .z4) rfl) (lG .z1 h15 (dLoad .z2 agg_5 (.t .z) rfl) (lCallG rfl .z2 h15 fok_76 (.c (.t .z) .n) (attr_Numeric_c _) .n rfl rfl fun o16 x17 h18 => ?_))
     refine lR (dPickT (.t .z3) h15 (.t .z)) (lM .z (lCase (fun h19 => ?_) (fun h19 => ?_)))
     ·refine lG .z h19 (dMove (.t .z11)) (lCallG rfl .z1 h19 fok_77 (.c (.t .z) .n) (typing_number_c a1) .n rfl rfl fun o20 x21 h22 => ?_)
      exact lG .z2 h19 (dNot (.t .z)) (lR (dPickT (.t .z3) h19 (.t .z)) (lA .z (lKeep (.k (.d (.d (.d (.d (.d (.d (.d (.d (.d (.d (.d (.d (.d (.d (.k .n)))))))))))))))) (lNil (xJoin (!o20) () (.c .z (.c .z1 .n)) (.c .z (.c .z (.c .z .nil))))))))
     ·exact lPass rfl .z (nbT (Bool.eq_false_iff.mpr h19)) rfl (lPass rfl .z (nbT (Bool.eq_false_iff.mpr h19)) rfl (lPass rfl .z (nbT (Bool.eq_false_iff.mpr h19)) rfl (lR (dPickF (.t .z) (Bool.eq_false_iff.mpr h19) (.c rfl)) (lA .z (lKeep (.k (.d (.d (.d (.d (.d (.d (.d (.d (.d (.d (.d (.k .n))))))))))))) (lNil (xJoin false () (.c .z (.c .z1 .n)) (.c .z (.c .z (.c .z .nil))))))))))
    ·refine lPass rfl .z (nbT (Bool.eq_false_iff.mpr h15)) rfl (lPass rfl .z (nbT (Bool.eq_false_iff.mpr h15)) rfl (lPass rfl .z (nbT (Bool.eq_false_iff.mpr h15)) rfl (lR (dPickF (.t .z) (Bool.eq_false_iff.mpr h15) (.c rfl)) (lM .z (lPass rfl .z (nbT rfl) rfl (lPass rfl .z (nbT rfl) rfl (lPass rfl .z (nbT rfl) rfl (lR (dPickF (.t .z) rfl (.c rfl)) ?_))))))))
     exact lA .z (lKeep (.k (.d (.d (.d (.d (.d (.d (.d (.d (.k .n)))))))))) (lNil (xJoin false () (.c .z (.c .z1 .n)) (.c .z (.c .z (.c .z .nil))))))
   ·refine xCode (cCondB (.t .z) (fun h25 => ?_) (fun h25 => ?_))
    ·exact cSeq (cRegion (lRdK (dAssign (.c rfl)) (.k (.d (Keep.refl _))) rfl rfl (lKeep (.k .n) (lNil (xCode (cRet (rLeave hD (lvRet (rs := [.tmp 4]) rfl (.t .z .n) () rfl (.c .z (.c .z .nil))))))))))
    ·refine cSkip (xBlock (xCode (cSeq (cRegion (lRdK (dAssign (.c rfl)) (.k (.d (Keep.refl _))) rfl rfl (lKeep (.k .n) (lNil (xCode ?_))))))))
     exact cRet (rLeave hD (lvRet (rs := [.tmp 4]) rfl (.t .z .n) () rfl (.c .z (.c .z .nil))))

-- (*greenscreen/plane.Plane).Set
def plane_Plane_Set_m (a0 : plane_Plane) (a1 : Int) (a2 : api_Cell) : Option (plane_Plane × Bool) := (plane_Plane_has_m a0 a1).bind fun o2 => (if (!o2) = true then some (a0, false) else (ix a0.f_cells a1).bind fun y6 => some ((⟨a0.f_size, (a0.f_cells.set (Int.toNat a1) a2), a0.f_cursor⟩ : plane_Plane), true))
theorem plane_Plane_Set_c (a0 : plane_Plane) (a1 : Int) (a2 : api_Cell) (b0_0 : Nat) (v0_1 : Value) : Con Tryd.prog 63 #[.pointer (some ⟨b0_0, 0, none⟩), .int .i64 a1, .agg #[vB a2.f_Byte, .bool a2.f_GE, .bool a2.f_Start, vB a2.f_Light, vB a2.f_Color]] [.blk b0_0 [.int .i64 a0.f_size.f_Rows, .int .i64 a0.f_size.f_Cols, v0_1, .int .i64 a0.f_cursor] 71, .own v0_1 50 k_api_Cell a0.f_cells] (plane_Plane_Set_m a0 a1 a2) (fun (o : plane_Plane × Bool) (x : Unit) => .bool o.2) (fun (o : plane_Plane × Bool) (x : Unit) => [.blk b0_0 [.int .i64 o.1.f_size.f_Rows, .int .i64 o.1.f_size.f_Cols, v0_1, .int .i64 o.1.f_cursor] 71, .own v0_1 50 k_api_Cell o.1.f_cells]) := by
  unfold plane_Plane_Set_m
  refine con (args := [.pointer (some ⟨b0_0, 0, none⟩), .int .i64 a1, .agg #[vB a2.f_Byte, .bool a2.f_GE, .bool a2.f_Start, vB a2.f_Light, vB a2.f_Color]]) Tryd.func63 rfl 18 rfl (.c (.c (.c .n))) rfl fun c hD hrn => ?_
  refine cSeq (cRegion (lCh (cBox (cs := [vB a2.f_Byte, .bool a2.f_GE, .bool a2.f_Start, vB a2.f_Light, vB a2.f_Color]) (.t .z2) rfl) rfl rfl fun b1 => ?_))
  refine lR (dAssign (.c rfl)) (lKeep (.k (.k (.k (.k .n)))) (lNil (xCode (cSeq (cSeq (cRegion (lM .z2 (lM .z4 ?_))))))))
  refine lCall fok_32 (.c (.t .z1) (.c (.t .z) .n)) (plane_Plane_has_c a0 a1 b0_0 v0_1) (.c .z1 (.c .z1 .n)) rfl rfl fun o2 x3 h4 => ?_
  refine lR (dNot (.t .z)) (lKeep (.k (.d (.d (.d (.k (.k (.k (.k .n)))))))) (lNil (xCode (cCondB (.t .z) (fun h5 => ?_) (fun h5 => ?_)))))
  ·exact cSeq (cRegion (lRdK (dAssign (.c rfl)) (.k (.d (Keep.refl _))) rfl rfl (lKeep (.k (.d (.k (.k (.k .n))))) (lNil (xCode (cRet (rLeave hD (lvRet (rs := [.tmp 6]) rfl (.t .z .n) () rfl (.c .z (.c .z .nil))))))))))
  ·refine cSkip (xCode (cSeq (cRegionM [7] [(0, .early), (1, .early), (2, .early), (3, .early), (4, .early), (5, .early), (6, .early), (7, .only)] mixed (by kernel_rfl) (.c .z (.c .z1 (.c .z .nil))) (.c (.c .n)) (mRd rfl rfl (fun _ _ _ => dMove (.t .z3)) rfl rfl ?_))))
   refine mRd rfl rfl (fun _ _ _ => dNil (.t .z)) rfl rfl ?_
   refine mRd rfl rfl (fun _ _ _ => dFld fld_71_1 (by decide) (.t .z) rfl) rfl rfl ?_
   refine mRd rfl rfl (fun _ _ _ => dLoad .z agg_69 (.t .z) rfl) rfl rfl ?_
   refine mRd rfl rfl (fun _ _ _ => dMove (.t .z8)) rfl rfl ?_
   refine mRd rfl rfl (fun _ _ _ => dLoadA (us := [vB a2.f_Byte, .bool a2.f_GE, .bool a2.f_Start, vB a2.f_Light, vB a2.f_Color]) .z1 agg_50 siz_50 rfl (.t .z7) rfl) rfl rfl ?_
   refine mIx fun y6 h7 h8 => ?_
   refine mRd rfl rfl (fun _ _ _ => dIxAddr (slOwn .z2) und_69 siz_50 (.t .z2) (.t .z1) h7 h8) rfl rfl ?_
   refine mChU rfl rfl (uStoreEA (us := [vB a2.f_Byte, .bool a2.f_GE, .bool a2.f_Start, vB a2.f_Light, vB a2.f_Color]) (z' := a2) .z2 .z2 siz_50 rfl (by intro u hu; simp only [List.mem_cons, List.not_mem_nil, or_false] at hu; rcases hu with rfl | rfl | rfl | rfl | rfl <;> first | rfl | assumption) (.t .z) (.t .z1) h8 (fun _ _ cs _ h => by cases h; exact ⟨by simp, rfl⟩)) (.c .z (.c .z (.c .z .nil))) (.c (.c .n)) ?_
   refine mKeep (.d (.d (.d (.d (.d (.d (.d (.d (.k .n))))))))) (mNil (xCode (cSeq (cRegion (lRdK (dAssign (.c rfl)) (.d (Keep.refl _)) rfl rfl (lNil (xCode (cRet ?_))))))))
   exact rLeave hD (lvRet (rs := [.tmp 6]) rfl (.t .z .n) () rfl (.c .z (.c .z1 .nil)))

-- greenscreen/field.Places
def field_Places_m (a0 : plane_Plane) (a1 : field_Field) : Option (Int × Int × UInt8) := some (a1.f_Start, a1.f_Len, a1.f_Attr)
theorem field_Places_c (a0 : plane_Plane) (a1 : field_Field) (b0_0 : Nat) (v0_1 : Value) : Con Tryd.prog 83 #[.pointer (some ⟨b0_0, 0, none⟩), .agg #[.int .i64 a1.f_Start, .int .i64 a1.f_Len, vB a1.f_Attr]] [.blk b0_0 [.int .i64 a0.f_size.f_Rows, .int .i64 a0.f_size.f_Cols, v0_1, .int .i64 a0.f_cursor] 71, .own v0_1 50 k_api_Cell a0.f_cells] (field_Places_m a0 a1) (fun (o : Int × Int × UInt8) (x : Nat × Nat) => .func (.func 93) #[] #[.pointer (some ⟨x.1, 0, none⟩), .pointer (some ⟨x.2, 0, none⟩)]) (fun (o : Int × Int × UInt8) (x : Nat × Nat) => [.blk b0_0 [.int .i64 a0.f_size.f_Rows, .int .i64 a0.f_size.f_Cols, v0_1, .int .i64 a0.f_cursor] 71, .own v0_1 50 k_api_Cell a0.f_cells, .blk x.1 [.int .i64 o.1, .int .i64 o.2.1, vB o.2.2] 85, .blk x.2 [.pointer (some ⟨b0_0, 0, none⟩)] 39]) := by
  unfold field_Places_m
  refine con (args := [.pointer (some ⟨b0_0, 0, none⟩), .agg #[.int .i64 a1.f_Start, .int .i64 a1.f_Len, vB a1.f_Attr]]) Tryd.func83 rfl 6 rfl (.c (.c .n)) rfl fun c hD hrn => ?_
  refine cSeq (cRegion (lCh (cBox (cs := [.pointer (some ⟨b0_0, 0, none⟩)]) (.t .z) rfl) rfl rfl fun b1 => ?_))
  refine lCh (cBox (cs := [.int .i64 a1.f_Start, .int .i64 a1.f_Len, vB a1.f_Attr]) (.t .z2) rfl) rfl rfl fun b2 => ?_
  refine lR (dAssign (.c rfl)) (lKeep (.k (.k (.k .n))) (lNil (xCode (cSeq (cRegion (lR (dMakeFuncL (vs := [.pointer (some ⟨b2, 0, none⟩), .pointer (some ⟨b1, 0, none⟩)]) (.c (.t .z1) (.c (.t .z2) .n))) (lAK .z (.k (.d (Keep.refl _))) (lKeep (.k .n) ?_))))))))
  exact lNil (xCode (cRet (rLeave hD (lvRet (rs := [.tmp 4]) rfl (.t .z .n) (b2, b1) rfl (.c .z2 (.c .z2 (.c .z (.c .z .nil))))))))

end Go.Proofs.YtecipnjloenndaaDoor.G
