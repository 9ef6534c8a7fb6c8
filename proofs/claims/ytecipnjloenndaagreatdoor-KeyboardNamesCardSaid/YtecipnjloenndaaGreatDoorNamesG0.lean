/-
The walk of law22_KeyboardNames, by program: each function's model, and its contract. Part 0.
-/
import Derived.Test.YtecipnjloenndaaGreatDoorSXk
import Derived.Test.YtecipnjloenndaaGreatDoorProg
set_option linter.unusedVariables false
set_option maxRecDepth 20000
set_option maxHeartbeats 2000000
namespace Go.Proofs.YtecipnjloenndaaGreatDoor.G
open Go Go.RowKit Go.Proofs.YtecipnjloenndaaGreatDoor.SX
structure keyboard_Key where
  f_Kind : Int
  f_Byte : UInt8
deriving DecidableEq, Inhabited

theorem struct_ext_keyboard_Key (x y : keyboard_Key) : x = y ↔ x.f_Kind = y.f_Kind ∧ x.f_Byte = y.f_Byte := by cases x; cases y; simp
def k_keyboard_Key : Kind keyboard_Key := Kind.flat 2 (fun x => [.int .i64 x.f_Kind, vB x.f_Byte]) (fun _ => rfl) fun x c h => by
  simp only [List.mem_cons, List.not_mem_nil, or_false] at h
  rcases h with rfl | rfl <;> rfl
structure lock_Lock where
  f_state : Int
  f_why : Int
  f_turns : Int
deriving DecidableEq, Inhabited

theorem struct_ext_lock_Lock (x y : lock_Lock) : x = y ↔ x.f_state = y.f_state ∧ x.f_why = y.f_why ∧ x.f_turns = y.f_turns := by cases x; cases y; simp
def k_lock_Lock : Kind lock_Lock := Kind.flat 3 (fun x => [.int .i64 x.f_state, .int .i64 x.f_why, .int .i64 x.f_turns]) (fun _ => rfl) fun x c h => by
  simp only [List.mem_cons, List.not_mem_nil, or_false] at h
  rcases h with rfl | rfl | rfl <;> rfl
structure api_Size where
  f_Rows : Int
  f_Cols : Int
deriving DecidableEq, Inhabited

theorem struct_ext_api_Size (x y : api_Size) : x = y ↔ x.f_Rows = y.f_Rows ∧ x.f_Cols = y.f_Cols := by cases x; cases y; simp
def k_api_Size : Kind api_Size := Kind.flat 2 (fun x => [.int .i64 x.f_Rows, .int .i64 x.f_Cols]) (fun _ => rfl) fun x c h => by
  simp only [List.mem_cons, List.not_mem_nil, or_false] at h
  rcases h with rfl | rfl <;> rfl
structure api_Cell where
  f_Byte : UInt8
  f_GE : Bool
  f_Start : Bool
  f_Light : UInt8
  f_Color : UInt8
deriving DecidableEq, Inhabited

theorem struct_ext_api_Cell (x y : api_Cell) : x = y ↔ x.f_Byte = y.f_Byte ∧ x.f_GE = y.f_GE ∧ x.f_Start = y.f_Start ∧ x.f_Light = y.f_Light ∧ x.f_Color = y.f_Color := by cases x; cases y; simp
def k_api_Cell : Kind api_Cell := Kind.flat 5 (fun x => [vB x.f_Byte, .bool x.f_GE, .bool x.f_Start, vB x.f_Light, vB x.f_Color]) (fun _ => rfl) fun x c h => by
  simp only [List.mem_cons, List.not_mem_nil, or_false] at h
  rcases h with rfl | rfl | rfl | rfl | rfl <;> rfl
structure plane_Plane where
  f_size : api_Size
  f_cells : (List api_Cell)
  f_cursor : Int
deriving DecidableEq, Inhabited

theorem struct_ext_plane_Plane (x y : plane_Plane) : x = y ↔ x.f_size = y.f_size ∧ x.f_cells = y.f_cells ∧ x.f_cursor = y.f_cursor := by cases x; cases y; simp
def k_plane_Plane : Kind plane_Plane where
  n := 4
  rd R cs x := ∃ v2 : Value, cs = [.int .i64 x.f_size.f_Rows, .int .i64 x.f_size.f_Cols, v2, .int .i64 x.f_cursor] ∧ (kSl k_api_Cell).rd R [v2] x.f_cells
  mono {R R' cs x} hR h := by
    obtain ⟨v2, rfl, h2⟩ := h
    exact ⟨v2, rfl, Kind.mono _ hR h2⟩
  len {R cs x} h := by
    obtain ⟨v2, rfl, _⟩ := h
    rfl
  one {R cs x} h := by
    obtain ⟨v2, rfl, h2⟩ := h
    intro c hc
    simp only [List.mem_cons, List.not_mem_nil, or_false] at hc
    rcases hc with rfl | rfl | rfl | rfl
    · rfl
    · rfl
    · exact Kind.one _ h2 _ (by simp)
    · rfl
theorem open_plane_Plane (x : plane_Plane) : ∀ R cs, k_plane_Plane.rd R cs x → ∃ z : Value, cs = [.int .i64 x.f_size.f_Rows, .int .i64 x.f_size.f_Cols, z, .int .i64 x.f_cursor] ∧ sat R [.ro (kSl k_api_Cell) [z] x.f_cells] PH.emp := by
  intro R cs h
  obtain ⟨v2, rfl, h2⟩ := h
  exact ⟨v2, rfl, (satRo h2 satNil)⟩

structure screen_Screen where
  f_sizes_0 : api_Size
  f_sizes_1 : api_Size
  f_which : Int
  f_p : plane_Plane
deriving Inhabited

structure keyboard_Keyboard where
  f_s : screen_Screen
  f_l : lock_Lock
  f_insert : Bool
  f_last : UInt8
deriving Inhabited

structure screen_Result where
  f_Reply : UInt8
  f_Restore : Bool
  f_Alarm : Bool
  f_Err : Int
deriving DecidableEq, Inhabited

theorem struct_ext_screen_Result (x y : screen_Result) : x = y ↔ x.f_Reply = y.f_Reply ∧ x.f_Restore = y.f_Restore ∧ x.f_Alarm = y.f_Alarm ∧ x.f_Err = y.f_Err := by cases x; cases y; simp
def k_screen_Result : Kind screen_Result := Kind.flat 4 (fun x => [vB x.f_Reply, .bool x.f_Restore, .bool x.f_Alarm, .int .i64 x.f_Err]) (fun _ => rfl) fun x c h => by
  simp only [List.mem_cons, List.not_mem_nil, or_false] at h
  rcases h with rfl | rfl | rfl | rfl <;> rfl
structure field_Field where
  f_Start : Int
  f_Len : Int
  f_Attr : UInt8
deriving DecidableEq, Inhabited

theorem struct_ext_field_Field (x y : field_Field) : x = y ↔ x.f_Start = y.f_Start ∧ x.f_Len = y.f_Len ∧ x.f_Attr = y.f_Attr := by cases x; cases y; simp
def k_field_Field : Kind field_Field := Kind.flat 3 (fun x => [.int .i64 x.f_Start, .int .i64 x.f_Len, vB x.f_Attr]) (fun _ => rfl) fun x c h => by
  simp only [List.mem_cons, List.not_mem_nil, or_false] at h
  rcases h with rfl | rfl | rfl <;> rfl
def glob_0 : List (List UInt8) := [[], [], [84, 65, 66], [66, 65, 67, 75, 84, 65, 66], [78, 69, 87, 76, 73, 78, 69], [72, 79, 77, 69], [85, 80], [68, 79, 87, 78], [76, 69, 70, 84], [82, 73, 71, 72, 84], [69, 82, 65, 83, 69, 69, 78, 68], [69, 82, 65, 83, 69, 73, 78, 80, 85, 84], [68, 69, 76, 69, 84, 69], [73, 78, 83, 69, 82, 84], [68, 85, 80], [77, 65, 82, 75], [82, 69, 83, 69, 84]]
theorem mixed : Tryz.prog.follows .mixedOrders = true := by kernel_rfl
theorem und_9 : Tryz.prog.underlying 9 = some (.string) := by kernel_rfl
theorem som_218 : (Tryz.prog.underlying 218).isSome = true := by kernel_rfl
theorem und_5 : Tryz.prog.underlying 5 = some (.int .u8) := by kernel_rfl
theorem som_5 : (Tryz.prog.underlying 5).isSome = true := by kernel_rfl
theorem und_3 : Tryz.prog.underlying 3 = some (.int .i64) := by kernel_rfl
theorem fok_191 : fnOk Tryz.prog 191 = true := by kernel_rfl
theorem fok_190 : fnOk Tryz.prog 190 = true := by kernel_rfl
theorem und_49 : Tryz.prog.underlying 49 = some (.slice 5) := by kernel_rfl
theorem und_247 : Tryz.prog.underlying 247 = some (.int .u32) := by kernel_rfl
theorem siz_5 : sizeT Tryz.prog 5 = some 1 := by kernel_rfl
theorem som_247 : (Tryz.prog.underlying 247).isSome = true := by kernel_rfl
theorem fok_222 : fnOk Tryz.prog 222 = true := by kernel_rfl
theorem zer_248 : zeroT Tryz.prog 248 = some (.agg #[.int .u8 0, .int .u8 0, .int .u8 0, .int .u8 0, .int .u8 0, .int .u8 0, .int .u8 0, .int .u8 0, .int .u8 0, .int .u8 0, .int .u8 0, .int .u8 0, .int .u8 0, .int .u8 0, .int .u8 0, .int .u8 0, .int .u8 0, .int .u8 0, .int .u8 0, .int .u8 0, .int .u8 0, .int .u8 0, .int .u8 0, .int .u8 0, .int .u8 0, .int .u8 0, .int .u8 0, .int .u8 0, .int .u8 0, .int .u8 0, .int .u8 0, .int .u8 0, .int .u8 0, .int .u8 0, .int .u8 0, .int .u8 0, .int .u8 0, .int .u8 0, .int .u8 0, .int .u8 0, .int .u8 0, .int .u8 0, .int .u8 0, .int .u8 0, .int .u8 0, .int .u8 0, .int .u8 0, .int .u8 0, .int .u8 0, .int .u8 0, .int .u8 0, .int .u8 0, .int .u8 0, .int .u8 0, .int .u8 0, .int .u8 0, .int .u8 0, .int .u8 0, .int .u8 0, .int .u8 0, .int .u8 0, .int .u8 0, .int .u8 0, .int .u8 0, .int .u8 0]) := by kernel_rfl
theorem fok_193 : fnOk Tryz.prog 193 = true := by kernel_rfl
theorem som_3 : (Tryz.prog.underlying 3).isSome = true := by kernel_rfl
theorem und_224 : Tryz.prog.underlying 224 = some (.int .u64) := by kernel_rfl
theorem fok_194 : fnOk Tryz.prog 194 = true := by kernel_rfl
theorem und_218 : Tryz.prog.underlying 218 = some (.int .u64) := by kernel_rfl
theorem und_248 : Tryz.prog.underlying 248 = some (.array 65 5) := by kernel_rfl
theorem fok_159 : fnOk Tryz.prog 159 = true := by kernel_rfl
theorem zer_217 : zeroT Tryz.prog 217 = some (.agg #[.int .u8 0, .int .u8 0, .int .u8 0, .int .u8 0, .int .u8 0, .int .u8 0, .int .u8 0, .int .u8 0, .int .u8 0, .int .u8 0, .int .u8 0, .int .u8 0, .int .u8 0, .int .u8 0, .int .u8 0, .int .u8 0, .int .u8 0, .int .u8 0, .int .u8 0, .int .u8 0, .int .u8 0, .int .u8 0, .int .u8 0, .int .u8 0]) := by kernel_rfl
theorem som_2 : (Tryz.prog.underlying 2).isSome = true := by kernel_rfl
theorem fok_119 : fnOk Tryz.prog 119 = true := by kernel_rfl
theorem fok_77 : fnOk Tryz.prog 77 = true := by kernel_rfl
theorem fok_76 : fnOk Tryz.prog 76 = true := by kernel_rfl
theorem fok_38 : fnOk Tryz.prog 38 = true := by kernel_rfl
theorem fok_39 : fnOk Tryz.prog 39 = true := by kernel_rfl
theorem fld_23_0 : fieldOf Tryz.prog 23 0 = some (0, 1, false) := by kernel_rfl
theorem agg_3 : aggT Tryz.prog 3 = some false := by kernel_rfl
theorem fld_23_1 : fieldOf Tryz.prog 23 1 = some (1, 1, false) := by kernel_rfl
theorem agg_5 : aggT Tryz.prog 5 = some false := by kernel_rfl
theorem fok_37 : fnOk Tryz.prog 37 = true := by kernel_rfl
theorem und_83 : Tryz.prog.underlying 83 = some (.array 17 9) := by kernel_rfl
theorem siz_9 : sizeT Tryz.prog 9 = some 1 := by kernel_rfl
theorem agg_9 : aggT Tryz.prog 9 = some false := by kernel_rfl
theorem zer_23 : zeroT Tryz.prog 23 = some (.agg #[.int .i64 0, .int .u8 0]) := by kernel_rfl
theorem plc_23 : placesOf Tryz.prog 23 = some [(0, 1), (1, 1)] := by kernel_rfl
theorem fok_9 : fnOk Tryz.prog 9 = true := by kernel_rfl
theorem siz_23 : sizeT Tryz.prog 23 = some 2 := by kernel_rfl
theorem agg_23 : aggT Tryz.prog 23 = some true := by kernel_rfl
theorem fld_95_0 : fieldOf Tryz.prog 95 0 = some (0, 1, false) := by kernel_rfl
theorem fld_95_2 : fieldOf Tryz.prog 95 2 = some (2, 1, false) := by kernel_rfl
theorem siz_3 : sizeT Tryz.prog 3 = some 1 := by kernel_rfl
theorem fld_95_1 : fieldOf Tryz.prog 95 1 = some (1, 1, false) := by kernel_rfl
theorem siz_52 : sizeT Tryz.prog 52 = some 1 := by kernel_rfl
theorem fok_47 : fnOk Tryz.prog 47 = true := by kernel_rfl
theorem fok_21 : fnOk Tryz.prog 21 = true := by kernel_rfl
theorem fld_54_1 : fieldOf Tryz.prog 54 1 = some (1, 1, false) := by kernel_rfl
theorem agg_4 : aggT Tryz.prog 4 = some false := by kernel_rfl
theorem fld_97_1 : fieldOf Tryz.prog 97 1 = some (1, 3, true) := by kernel_rfl
theorem fok_43 : fnOk Tryz.prog 43 = true := by kernel_rfl
theorem fld_97_2 : fieldOf Tryz.prog 97 2 = some (4, 1, false) := by kernel_rfl
theorem siz_4 : sizeT Tryz.prog 4 = some 1 := by kernel_rfl
theorem fld_97_3 : fieldOf Tryz.prog 97 3 = some (5, 1, false) := by kernel_rfl
theorem fld_124_2 : fieldOf Tryz.prog 124 2 = some (5, 1, false) := by kernel_rfl
theorem agg_70 : aggT Tryz.prog 70 = some false := by kernel_rfl
theorem fok_10 : fnOk Tryz.prog 10 = true := by kernel_rfl
theorem fld_33_0 : fieldOf Tryz.prog 33 0 = some (0, 1, false) := by kernel_rfl
theorem fld_33_1 : fieldOf Tryz.prog 33 1 = some (1, 1, false) := by kernel_rfl
theorem agg_33 : aggT Tryz.prog 33 = some true := by kernel_rfl
theorem siz_33 : sizeT Tryz.prog 33 = some 2 := by kernel_rfl
theorem fok_73 : fnOk Tryz.prog 73 = true := by kernel_rfl
theorem und_37 : Tryz.prog.underlying 37 = some (.slice 80) := by kernel_rfl
theorem inf_80 : elemInfo Tryz.prog 80 = some (5, 5, 5) := by kernel_rfl
theorem zer_80 : zeroT Tryz.prog 80 = some (.agg #[.int .u8 0, .bool false, .bool false, .int .u8 0, .int .u8 0]) := by kernel_rfl
theorem zer_126 : zeroT Tryz.prog 126 = some (.agg #[.int .i64 0, .int .i64 0, .slice none 0 0, .int .i64 0]) := by kernel_rfl
theorem plc_126 : placesOf Tryz.prog 126 = some [(0, 2), (2, 1), (3, 1)] := by kernel_rfl
theorem fld_124_1 : fieldOf Tryz.prog 124 1 = some (4, 1, false) := by kernel_rfl
theorem fld_124_0 : fieldOf Tryz.prog 124 0 = some (0, 4, true) := by kernel_rfl
theorem und_122 : Tryz.prog.underlying 122 = some (.array 2 33) := by kernel_rfl
theorem fok_158 : fnOk Tryz.prog 158 = true := by kernel_rfl
theorem siz_70 : sizeT Tryz.prog 70 = some 1 := by kernel_rfl
theorem fok_118 : fnOk Tryz.prog 118 = true := by kernel_rfl
theorem fok_28 : fnOk Tryz.prog 28 = true := by kernel_rfl
theorem fok_94 : fnOk Tryz.prog 94 = true := by kernel_rfl
theorem fld_97_0 : fieldOf Tryz.prog 97 0 = some (0, 1, false) := by kernel_rfl
theorem agg_35 : aggT Tryz.prog 35 = some false := by kernel_rfl
theorem fok_74 : fnOk Tryz.prog 74 = true := by kernel_rfl
theorem fld_126_2 : fieldOf Tryz.prog 126 2 = some (3, 1, false) := by kernel_rfl
theorem fld_126_1 : fieldOf Tryz.prog 126 1 = some (2, 1, false) := by kernel_rfl
theorem agg_37 : aggT Tryz.prog 37 = some false := by kernel_rfl
theorem fok_75 : fnOk Tryz.prog 75 = true := by kernel_rfl
theorem fok_135 : fnOk Tryz.prog 135 = true := by kernel_rfl
theorem plc_80 : placesOf Tryz.prog 80 = some [(0, 1), (1, 1), (2, 1), (3, 1), (4, 1)] := by kernel_rfl
theorem siz_80 : sizeT Tryz.prog 80 = some 5 := by kernel_rfl
theorem agg_80 : aggT Tryz.prog 80 = some true := by kernel_rfl
theorem zer_33 : zeroT Tryz.prog 33 = some (.agg #[.int .i64 0, .int .i64 0]) := by kernel_rfl
theorem fld_126_0 : fieldOf Tryz.prog 126 0 = some (0, 2, true) := by kernel_rfl
theorem fok_66 : fnOk Tryz.prog 66 = true := by kernel_rfl
theorem fok_147 : fnOk Tryz.prog 147 = true := by kernel_rfl
theorem fok_176 : fnOk Tryz.prog 176 = true := by kernel_rfl
theorem fok_36 : fnOk Tryz.prog 36 = true := by kernel_rfl
theorem fld_80_2 : fieldOf Tryz.prog 80 2 = some (2, 1, false) := by kernel_rfl
theorem fok_217 : fnOk Tryz.prog 217 = true := by kernel_rfl
theorem zer_193 : zeroT Tryz.prog 193 = some (.agg #[.int .i64 0, .int .i64 0, .int .u8 0]) := by kernel_rfl
theorem fok_199 : fnOk Tryz.prog 199 = true := by kernel_rfl
theorem fld_80_0 : fieldOf Tryz.prog 80 0 = some (0, 1, false) := by kernel_rfl
theorem plc_193 : placesOf Tryz.prog 193 = some [(0, 1), (1, 1), (2, 1)] := by kernel_rfl
theorem siz_193 : sizeT Tryz.prog 193 = some 3 := by kernel_rfl
theorem agg_193 : aggT Tryz.prog 193 = some true := by kernel_rfl
theorem fok_181 : fnOk Tryz.prog 181 = true := by kernel_rfl
theorem fok_174 : fnOk Tryz.prog 174 = true := by kernel_rfl
theorem fok_143 : fnOk Tryz.prog 143 = true := by kernel_rfl
theorem fld_193_0 : fieldOf Tryz.prog 193 0 = some (0, 1, false) := by kernel_rfl
theorem fld_193_1 : fieldOf Tryz.prog 193 1 = some (1, 1, false) := by kernel_rfl
theorem fld_193_2 : fieldOf Tryz.prog 193 2 = some (2, 1, false) := by kernel_rfl
theorem fok_133 : fnOk Tryz.prog 133 = true := by kernel_rfl
theorem fok_145 : fnOk Tryz.prog 145 = true := by kernel_rfl
theorem fok_144 : fnOk Tryz.prog 144 = true := by kernel_rfl
theorem fok_68 : fnOk Tryz.prog 68 = true := by kernel_rfl
theorem fok_142 : fnOk Tryz.prog 142 = true := by kernel_rfl
theorem fok_141 : fnOk Tryz.prog 141 = true := by kernel_rfl
theorem fok_146 : fnOk Tryz.prog 146 = true := by kernel_rfl
theorem fok_131 : fnOk Tryz.prog 131 = true := by kernel_rfl
theorem zer_3 : zeroT Tryz.prog 3 = some (.int .i64 0) := by kernel_rfl
theorem fok_95 : fnOk Tryz.prog 95 = true := by kernel_rfl
theorem fok_96 : fnOk Tryz.prog 96 = true := by kernel_rfl
theorem fok_97 : fnOk Tryz.prog 97 = true := by kernel_rfl
theorem fok_99 : fnOk Tryz.prog 99 = true := by kernel_rfl
theorem fok_132 : fnOk Tryz.prog 132 = true := by kernel_rfl
theorem fok_218 : fnOk Tryz.prog 218 = true := by kernel_rfl
theorem fok_182 : fnOk Tryz.prog 182 = true := by kernel_rfl
theorem fok_183 : fnOk Tryz.prog 183 = true := by kernel_rfl
theorem zer_160 : zeroT Tryz.prog 160 = some (.slice none 0 0) := by kernel_rfl
theorem agg_160 : aggT Tryz.prog 160 = some false := by kernel_rfl
theorem und_160 : Tryz.prog.underlying 160 = some (.slice 3) := by kernel_rfl
theorem inf_3 : elemInfo Tryz.prog 3 = some (1, 8, 1) := by kernel_rfl
theorem siz_160 : sizeT Tryz.prog 160 = some 1 := by kernel_rfl
theorem fok_153 : fnOk Tryz.prog 153 = true := by kernel_rfl
theorem fok_134 : fnOk Tryz.prog 134 = true := by kernel_rfl
theorem fok_127 : fnOk Tryz.prog 127 = true := by kernel_rfl
theorem fok_186 : fnOk Tryz.prog 186 = true := by kernel_rfl
theorem fok_148 : fnOk Tryz.prog 148 = true := by kernel_rfl
theorem fld_80_3 : fieldOf Tryz.prog 80 3 = some (3, 1, false) := by kernel_rfl
theorem fld_80_4 : fieldOf Tryz.prog 80 4 = some (4, 1, false) := by kernel_rfl
theorem fok_150 : fnOk Tryz.prog 150 = true := by kernel_rfl
theorem fok_151 : fnOk Tryz.prog 151 = true := by kernel_rfl
theorem fok_152 : fnOk Tryz.prog 152 = true := by kernel_rfl
theorem fok_100 : fnOk Tryz.prog 100 = true := by kernel_rfl
theorem fok_26 : fnOk Tryz.prog 26 = true := by kernel_rfl
theorem fok_101 : fnOk Tryz.prog 101 = true := by kernel_rfl
theorem fok_102 : fnOk Tryz.prog 102 = true := by kernel_rfl
theorem fok_103 : fnOk Tryz.prog 103 = true := by kernel_rfl
theorem fok_104 : fnOk Tryz.prog 104 = true := by kernel_rfl
theorem fok_48 : fnOk Tryz.prog 48 = true := by kernel_rfl
theorem fok_49 : fnOk Tryz.prog 49 = true := by kernel_rfl
theorem fok_50 : fnOk Tryz.prog 50 = true := by kernel_rfl
theorem fok_51 : fnOk Tryz.prog 51 = true := by kernel_rfl
theorem fok_53 : fnOk Tryz.prog 53 = true := by kernel_rfl
theorem fok_52 : fnOk Tryz.prog 52 = true := by kernel_rfl
theorem zer_122 : zeroT Tryz.prog 122 = some (.agg #[.int .i64 0, .int .i64 0, .int .i64 0, .int .i64 0]) := by kernel_rfl
theorem zer_124 : zeroT Tryz.prog 124 = some (.agg #[.int .i64 0, .int .i64 0, .int .i64 0, .int .i64 0, .int .i64 0, .pointer none]) := by kernel_rfl
theorem plc_124 : placesOf Tryz.prog 124 = some [(0, 4), (4, 1), (5, 1)] := by kernel_rfl
theorem zer_97 : zeroT Tryz.prog 97 = some (.agg #[.pointer none, .int .i64 0, .int .i64 0, .int .i64 0, .bool false, .int .u8 0]) := by kernel_rfl
theorem plc_97 : placesOf Tryz.prog 97 = some [(0, 1), (1, 3), (4, 1), (5, 1)] := by kernel_rfl
theorem plc_33 : placesOf Tryz.prog 33 = some [(0, 1), (1, 1)] := by kernel_rfl
theorem fok_34 : fnOk Tryz.prog 34 = true := by kernel_rfl
theorem und_35 : Tryz.prog.underlying 35 = some (.pointer 124) := by kernel_rfl
theorem fok_35 : fnOk Tryz.prog 35 = true := by kernel_rfl
theorem und_36 : Tryz.prog.underlying 36 = some (.pointer 97) := by kernel_rfl
theorem fok_20 : fnOk Tryz.prog 20 = true := by kernel_rfl
theorem und_62 : Tryz.prog.underlying 62 = some (.pointer 95) := by kernel_rfl
theorem und_70 : Tryz.prog.underlying 70 = some (.pointer 126) := by kernel_rfl
theorem fok_23 : fnOk Tryz.prog 23 = true := by kernel_rfl
theorem fok_30 : fnOk Tryz.prog 30 = true := by kernel_rfl
theorem fok_32 : fnOk Tryz.prog 32 = true := by kernel_rfl
theorem zer_54 : zeroT Tryz.prog 54 = some (.agg #[.int .u8 0, .bool false, .bool false, .int .i64 0]) := by kernel_rfl
theorem plc_54 : placesOf Tryz.prog 54 = some [(0, 1), (1, 1), (2, 1), (3, 1)] := by kernel_rfl
theorem fok_17 : fnOk Tryz.prog 17 = true := by kernel_rfl
theorem fok_12 : fnOk Tryz.prog 12 = true := by kernel_rfl
theorem eqg_23 : Tryz.prog.eqGuardType Tryz.prog.depth 23 = false := by kernel_rfl
theorem fok_13 : fnOk Tryz.prog 13 = true := by kernel_rfl
theorem zer_5 : zeroT Tryz.prog 5 = some (.int .u8 0) := by kernel_rfl
theorem und_82 : Tryz.prog.underlying 82 = some (.slice 9) := by kernel_rfl
theorem zer_9 : zeroT Tryz.prog 9 = some (.string ⟨#[]⟩) := by kernel_rfl
theorem fok_11 : fnOk Tryz.prog 11 = true := by kernel_rfl
theorem fok_7 : fnOk Tryz.prog 7 = true := by kernel_rfl
theorem fok_8 : fnOk Tryz.prog 8 = true := by kernel_rfl
theorem und_4 : Tryz.prog.underlying 4 = some (.bool) := by kernel_rfl
theorem eqa_23 (x y : keyboard_Key) : eqT Tryz.prog 10000 23 (.agg [.int .i64 x.f_Kind, vB x.f_Byte].toArray) (.agg [.int .i64 y.f_Kind, vB y.f_Byte].toArray) = some (decide (x = y)) := by
  have h : eqT Tryz.prog 10000 23 (.agg [.int .i64 x.f_Kind, vB x.f_Byte].toArray) (.agg [.int .i64 y.f_Kind, vB y.f_Byte].toArray) = some ((x.f_Kind == y.f_Kind) && ((((x.f_Byte).toNat : Int) == ((y.f_Byte).toNat : Int)) && true)) := by kernel_rfl
  rw [h]
  congr 1
  rw [Bool.eq_iff_iff]
  simp only [Bool.and_eq_true, beq_iff_eq, decide_eq_true_eq, and_true, Int.ofNat_inj, UInt8.toNat_inj, keyboard_Key.mk.injEq, struct_ext_keyboard_Key]

-- internal/strconv.small
def internal_strconv_small_m (a0 : Int) : Option ((List UInt8)) := (if a0 < 10 then (sub ([48, 49, 50, 51, 52, 53, 54, 55, 56, 57, 97, 98, 99, 100, 101, 102, 103, 104, 105, 106, 107, 108, 109, 110, 111, 112, 113, 114, 115, 116, 117, 118, 119, 120, 121, 122] : List UInt8) a0 (w64 (a0 + 1))).bind fun r2 => some r2 else (sub ([48, 48, 48, 49, 48, 50, 48, 51, 48, 52, 48, 53, 48, 54, 48, 55, 48, 56, 48, 57, 49, 48, 49, 49, 49, 50, 49, 51, 49, 52, 49, 53, 49, 54, 49, 55, 49, 56, 49, 57, 50, 48, 50, 49, 50, 50, 50, 51, 50, 52, 50, 53, 50, 54, 50, 55, 50, 56, 50, 57, 51, 48, 51, 49, 51, 50, 51, 51, 51, 52, 51, 53, 51, 54, 51, 55, 51, 56, 51, 57, 52, 48, 52, 49, 52, 50, 52, 51, 52, 52, 52, 53, 52, 54, 52, 55, 52, 56, 52, 57, 53, 48, 53, 49, 53, 50, 53, 51, 53, 52, 53, 53, 53, 54, 53, 55, 53, 56, 53, 57, 54, 48, 54, 49, 54, 50, 54, 51, 54, 52, 54, 53, 54, 54, 54, 55, 54, 56, 54, 57, 55, 48, 55, 49, 55, 50, 55, 51, 55, 52, 55, 53, 55, 54, 55, 55, 55, 56, 55, 57, 56, 48, 56, 49, 56, 50, 56, 51, 56, 52, 56, 53, 56, 54, 56, 55, 56, 56, 56, 57, 57, 48, 57, 49, 57, 50, 57, 51, 57, 52, 57, 53, 57, 54, 57, 55, 57, 56, 57, 57] : List UInt8) (w64 (a0 * 2)) (w64 ((w64 (a0 * 2)) + 2))).bind fun r4 => some r4)
theorem internal_strconv_small_c (a0 : Int) : Con Tryz.prog 159 #[.int .i64 a0] [] (internal_strconv_small_m a0) (fun (o : (List UInt8)) (x : Unit) => vS o) (fun (o : (List UInt8)) (x : Unit) => []) := by
  unfold internal_strconv_small_m
  refine con (args := [.int .i64 a0]) Tryz.func159 rfl 15 rfl (.c .n) rfl fun c hD => ?_
  refine cSeq ?_
  refine cRegion ?_
  refine lRd (dAssign (.c (v' := vS ([] : List UInt8)) rfl)) rfl rfl ?_
  refine lNil ?_
  refine xCode ?_
  refine cSeq ?_
  refine cSeq ?_
  refine cRegion ?_
  refine lRd (dMove (.t (.s .z))) rfl rfl ?_
  refine lRd (dLt (.t .z) (.c rfl)) rfl rfl ?_
  refine lKeep (.k (.d (.k (.k .n)))) ?_
  refine lNil ?_
  refine xCode ?_
  refine cCond (.t .z) (fun h1 => ?_) (fun h1 => ?_)
  · refine cSeq ?_
    refine cRegion ?_
    refine lRd (dMove (.t (.s (.s .z)))) rfl rfl ?_
    refine lRd (dMove (.t (.s (.s (.s .z))))) rfl rfl ?_
    refine lRd (dAddI (.t .z) (.c rfl)) rfl rfl ?_
    refine lBind fun r2 h3 => ?_
    refine lRd (dSubStr und_9 (.c (v' := vS ([48, 49, 50, 51, 52, 53, 54, 55, 56, 57, 97, 98, 99, 100, 101, 102, 103, 104, 105, 106, 107, 108, 109, 110, 111, 112, 113, 114, 115, 116, 117, 118, 119, 120, 121, 122] : List UInt8)) rfl) ⟨_, (.t (.s (.s .z)))⟩ ⟨_, (.t .z)⟩ h3) rfl rfl ?_
    refine lRdK (dAssign (.t .z)) (.k (.k (.k (.k (.k (.d (Keep.refl _))))))) rfl rfl ?_
    refine lKeep (.k (.d (.d (.d (.d (.d (.k .n))))))) ?_
    refine lNil ?_
    refine xCode ?_
    refine cRet ?_
    exact rDone (rs := [.tmp 2]) rfl (.t .z .n) hD (.inl rfl) () rfl .nil
  · refine cSkip ?_
    refine xCode ?_
    refine cSeq ?_
    refine cRegion ?_
    refine lRd (dMove (.t (.s (.s .z)))) rfl rfl ?_
    refine lRd (dMulI (.t .z) (.c rfl)) rfl rfl ?_
    refine lRd (dMove (.t (.s (.s (.s (.s .z)))))) rfl rfl ?_
    refine lRd (dMulI (.t .z) (.c rfl)) rfl rfl ?_
    refine lRd (dAddI (.t .z) (.c rfl)) rfl rfl ?_
    refine lBind fun r4 h5 => ?_
    refine lRd (dSubStr und_9 (.c (v' := vS ([48, 48, 48, 49, 48, 50, 48, 51, 48, 52, 48, 53, 48, 54, 48, 55, 48, 56, 48, 57, 49, 48, 49, 49, 49, 50, 49, 51, 49, 52, 49, 53, 49, 54, 49, 55, 49, 56, 49, 57, 50, 48, 50, 49, 50, 50, 50, 51, 50, 52, 50, 53, 50, 54, 50, 55, 50, 56, 50, 57, 51, 48, 51, 49, 51, 50, 51, 51, 51, 52, 51, 53, 51, 54, 51, 55, 51, 56, 51, 57, 52, 48, 52, 49, 52, 50, 52, 51, 52, 52, 52, 53, 52, 54, 52, 55, 52, 56, 52, 57, 53, 48, 53, 49, 53, 50, 53, 51, 53, 52, 53, 53, 53, 54, 53, 55, 53, 56, 53, 57, 54, 48, 54, 49, 54, 50, 54, 51, 54, 52, 54, 53, 54, 54, 54, 55, 54, 56, 54, 57, 55, 48, 55, 49, 55, 50, 55, 51, 55, 52, 55, 53, 55, 54, 55, 55, 55, 56, 55, 57, 56, 48, 56, 49, 56, 50, 56, 51, 56, 52, 56, 53, 56, 54, 56, 55, 56, 56, 56, 57, 57, 48, 57, 49, 57, 50, 57, 51, 57, 52, 57, 53, 57, 54, 57, 55, 57, 56, 57, 57] : List UInt8)) rfl) ⟨_, (.t (.s (.s (.s .z))))⟩ ⟨_, (.t .z)⟩ h5) rfl rfl ?_
    refine lRdK (dAssign (.t .z)) (.k (.k (.k (.k (.k (.k (.k (.d (Keep.refl _))))))))) rfl rfl ?_
    refine lKeep (.k .n) ?_
    refine lNil ?_
    refine xCode ?_
    refine cRet ?_
    exact rDone (rs := [.tmp 2]) rfl (.t .z .n) hD (.inl rfl) () rfl .nil

-- internal/strconv.log10Pow2
def internal_strconv_log10Pow2_m (a0 : Int) : Option (Int) := some (Int.fdiv (w64 (a0 * 78913)) (2 ^ (min (Int.toNat 18) 64)))
theorem internal_strconv_log10Pow2_c (a0 : Int) : Con Tryz.prog 190 #[.int .i64 a0] [] (internal_strconv_log10Pow2_m a0) (fun (o : Int) (x : Unit) => .int .i64 o) (fun (o : Int) (x : Unit) => []) := by
  unfold internal_strconv_log10Pow2_m
  refine con (args := [.int .i64 a0]) Tryz.func190 rfl 6 rfl (.c .n) rfl fun c hD => ?_
  refine cSeq ?_
  refine cRegion ?_
  refine lRd (dAssign (.c rfl)) rfl rfl ?_
  refine lNil ?_
  refine xCode ?_
  refine cSeq ?_
  refine cRegion ?_
  refine lRd (dMove (.t (.s .z))) rfl rfl ?_
  refine lRd (dMulI (.t .z) (.c rfl)) rfl rfl ?_
  refine lRd (dShr (.t .z) (.c rfl) (by decide)) rfl rfl ?_
  refine lRdK (dAssign (.t .z)) (.k (.k (.k (.d (Keep.refl _))))) rfl rfl ?_
  refine lKeep (.k .n) ?_
  refine lNil ?_
  refine xCode ?_
  refine cRet ?_
  exact rDone (rs := [.tmp 2]) rfl (.t .z .n) hD (.inl rfl) () rfl .nil

-- math/bits.Len64
def math_bits_Len64_m (a0 : Int) : Option (Int) := ((if a0 ≥ 4294967296 then some (32, Int.fdiv a0 (2 ^ (min (Int.toNat 32) 64))) else some (0, a0))).bind fun (s2 : Int × Int) => ((if s2.2 ≥ 65536 then some (w64 (s2.1 + 16), Int.fdiv s2.2 (2 ^ (min (Int.toNat 16) 64))) else some (s2.1, s2.2))).bind fun (s5 : Int × Int) => ((if s5.2 ≥ 256 then some (w64 (s5.1 + 8), Int.fdiv s5.2 (2 ^ (min (Int.toNat 8) 64))) else some (s5.1, s5.2))).bind fun (s8 : Int × Int) => (ix ([0, 1, 2, 2, 3, 3, 3, 3, 4, 4, 4, 4, 4, 4, 4, 4, 5, 5, 5, 5, 5, 5, 5, 5, 5, 5, 5, 5, 5, 5, 5, 5, 6, 6, 6, 6, 6, 6, 6, 6, 6, 6, 6, 6, 6, 6, 6, 6, 6, 6, 6, 6, 6, 6, 6, 6, 6, 6, 6, 6, 6, 6, 6, 6, 7, 7, 7, 7, 7, 7, 7, 7, 7, 7, 7, 7, 7, 7, 7, 7, 7, 7, 7, 7, 7, 7, 7, 7, 7, 7, 7, 7, 7, 7, 7, 7, 7, 7, 7, 7, 7, 7, 7, 7, 7, 7, 7, 7, 7, 7, 7, 7, 7, 7, 7, 7, 7, 7, 7, 7, 7, 7, 7, 7, 7, 7, 7, 7, 8, 8, 8, 8, 8, 8, 8, 8, 8, 8, 8, 8, 8, 8, 8, 8, 8, 8, 8, 8, 8, 8, 8, 8, 8, 8, 8, 8, 8, 8, 8, 8, 8, 8, 8, 8, 8, 8, 8, 8, 8, 8, 8, 8, 8, 8, 8, 8, 8, 8, 8, 8, 8, 8, 8, 8, 8, 8, 8, 8, 8, 8, 8, 8, 8, 8, 8, 8, 8, 8, 8, 8, 8, 8, 8, 8, 8, 8, 8, 8, 8, 8, 8, 8, 8, 8, 8, 8, 8, 8, 8, 8, 8, 8, 8, 8, 8, 8, 8, 8, 8, 8, 8, 8, 8, 8, 8, 8, 8, 8, 8, 8, 8, 8, 8, 8, 8, 8, 8, 8, 8, 8, 8, 8, 8, 8, 8, 8] : List UInt8) ((toB s8.2).toNat : Int)).bind fun y10 => some (w64 (s8.1 + (y10.toNat : Int)))
theorem math_bits_Len64_c (a0 : Int) : Con Tryz.prog 191 #[.int .u64 a0] [] (math_bits_Len64_m a0) (fun (o : Int) (x : Unit) => .int .i64 o) (fun (o : Int) (x : Unit) => []) := by
  unfold math_bits_Len64_m
  refine con (args := [.int .u64 a0]) Tryz.func191 rfl 25 rfl (.c .n) rfl fun c hD => ?_
  refine cSeq ?_
  refine cRegion ?_
  refine lRd (dAssign (.c rfl)) rfl rfl ?_
  refine lNil ?_
  refine xCode ?_
  refine cSeq ?_
  refine cSeq ?_
  refine cRegion ?_
  refine lRd (dMove (.t (.s .z))) rfl rfl ?_
  refine lRd (dGe (.t .z) (.c rfl)) rfl rfl ?_
  refine lKeep (.k (.d (.k (.k .n)))) ?_
  refine lNil ?_
  refine xCode ?_
  refine cJoin (S := Int × Int) (X := Unit) (fun (s : Int × Int) (x : Unit) => [(2, .int .i64 s.1), (0, .int .u64 s.2)]) (fun (s : Int × Int) (x : Unit) => []) ?_ (fun s2 x3 => ?_)
  · refine cCond (.t .z) (fun h1 => ?_) (fun h1 => ?_)
    · refine cSeq ?_
      refine cRegion ?_
      refine lRd (dMove (.t (.s (.s .z)))) rfl rfl ?_
      refine lRd (dShr (.t .z) (.c rfl) (by decide)) rfl rfl ?_
      refine lRdK (dAssign (.t .z)) (.k (.k (.k (.k (.d (Keep.refl _)))))) rfl rfl ?_
      refine lKeep (.k (.d (.d (.d (.k .n))))) ?_
      refine lNil ?_
      refine xCode ?_
      refine cRegion ?_
      refine lRdK (dAssign (.c rfl)) (.k (.d (Keep.refl _))) rfl rfl ?_
      refine lNil ?_
      exact xJoin (32, Int.fdiv a0 (2 ^ (min (Int.toNat 32) 64))) () (.c .z (.c (.s .z) .n)) .nil
    · refine cSkip ?_
      exact xJoin (0, a0) () (.c (.s .z) (.c (.s (.s .z)) .n)) .nil
  · refine xCode ?_
    refine cSeq ?_
    refine cSeq ?_
    refine cRegion ?_
    refine lRd (dMove (.t (.s .z))) rfl rfl ?_
    refine lRd (dGe (.t .z) (.c rfl)) rfl rfl ?_
    refine lKeep (.k (.d (.k (.k .n)))) ?_
    refine lNil ?_
    refine xCode ?_
    refine cJoin (S := Int × Int) (X := Unit) (fun (s : Int × Int) (x : Unit) => [(2, .int .i64 s.1), (0, .int .u64 s.2)]) (fun (s : Int × Int) (x : Unit) => []) ?_ (fun s5 x6 => ?_)
    · refine cCond (.t .z) (fun h4 => ?_) (fun h4 => ?_)
      · refine cSeq ?_
        refine cRegion ?_
        refine lRd (dMove (.t (.s (.s .z)))) rfl rfl ?_
        refine lRd (dShr (.t .z) (.c rfl) (by decide)) rfl rfl ?_
        refine lRdK (dAssign (.t .z)) (.k (.k (.k (.k (.d (Keep.refl _)))))) rfl rfl ?_
        refine lKeep (.k (.d (.d (.d (.k .n))))) ?_
        refine lNil ?_
        refine xCode ?_
        refine cRegion ?_
        refine lRd (dMove (.t (.s .z))) rfl rfl ?_
        refine lRd (dAddI (.t .z) (.c rfl)) rfl rfl ?_
        refine lRdK (dAssign (.t .z)) (.k (.k (.k (.d (Keep.refl _))))) rfl rfl ?_
        refine lKeep (.k (.d (.d (.k .n)))) ?_
        refine lNil ?_
        exact xJoin (w64 (s2.1 + 16), Int.fdiv s2.2 (2 ^ (min (Int.toNat 16) 64))) () (.c .z (.c (.s .z) .n)) .nil
      · refine cSkip ?_
        exact xJoin (s2.1, s2.2) () (.c (.s .z) (.c (.s (.s .z)) .n)) .nil
    · refine xCode ?_
      refine cSeq ?_
      refine cSeq ?_
      refine cRegion ?_
      refine lRd (dMove (.t (.s .z))) rfl rfl ?_
      refine lRd (dGe (.t .z) (.c rfl)) rfl rfl ?_
      refine lKeep (.k (.d (.k (.k .n)))) ?_
      refine lNil ?_
      refine xCode ?_
      refine cJoin (S := Int × Int) (X := Unit) (fun (s : Int × Int) (x : Unit) => [(2, .int .i64 s.1), (0, .int .u64 s.2)]) (fun (s : Int × Int) (x : Unit) => []) ?_ (fun s8 x9 => ?_)
      · refine cCond (.t .z) (fun h7 => ?_) (fun h7 => ?_)
        · refine cSeq ?_
          refine cRegion ?_
          refine lRd (dMove (.t (.s (.s .z)))) rfl rfl ?_
          refine lRd (dShr (.t .z) (.c rfl) (by decide)) rfl rfl ?_
          refine lRdK (dAssign (.t .z)) (.k (.k (.k (.k (.d (Keep.refl _)))))) rfl rfl ?_
          refine lKeep (.k (.d (.d (.d (.k .n))))) ?_
          refine lNil ?_
          refine xCode ?_
          refine cRegion ?_
          refine lRd (dMove (.t (.s .z))) rfl rfl ?_
          refine lRd (dAddI (.t .z) (.c rfl)) rfl rfl ?_
          refine lRdK (dAssign (.t .z)) (.k (.k (.k (.d (Keep.refl _))))) rfl rfl ?_
          refine lKeep (.k (.d (.d (.k .n)))) ?_
          refine lNil ?_
          exact xJoin (w64 (s5.1 + 8), Int.fdiv s5.2 (2 ^ (min (Int.toNat 8) 64))) () (.c .z (.c (.s .z) .n)) .nil
        · refine cSkip ?_
          exact xJoin (s5.1, s5.2) () (.c (.s .z) (.c (.s (.s .z)) .n)) .nil
      · refine xCode ?_
        refine cSeq ?_
        refine cRegion ?_
        refine lRd (dMove (.t .z)) rfl rfl ?_
        refine lRd (dMove (.t (.s (.s .z)))) rfl rfl ?_
        refine lRd (dConvToB som_218 und_5 (.t .z)) rfl rfl ?_
        refine lIx fun y10 h11 h12 => ?_
        refine lRd (dIxStr und_9 (.c (v' := vS ([0, 1, 2, 2, 3, 3, 3, 3, 4, 4, 4, 4, 4, 4, 4, 4, 5, 5, 5, 5, 5, 5, 5, 5, 5, 5, 5, 5, 5, 5, 5, 5, 6, 6, 6, 6, 6, 6, 6, 6, 6, 6, 6, 6, 6, 6, 6, 6, 6, 6, 6, 6, 6, 6, 6, 6, 6, 6, 6, 6, 6, 6, 6, 6, 7, 7, 7, 7, 7, 7, 7, 7, 7, 7, 7, 7, 7, 7, 7, 7, 7, 7, 7, 7, 7, 7, 7, 7, 7, 7, 7, 7, 7, 7, 7, 7, 7, 7, 7, 7, 7, 7, 7, 7, 7, 7, 7, 7, 7, 7, 7, 7, 7, 7, 7, 7, 7, 7, 7, 7, 7, 7, 7, 7, 7, 7, 7, 7, 8, 8, 8, 8, 8, 8, 8, 8, 8, 8, 8, 8, 8, 8, 8, 8, 8, 8, 8, 8, 8, 8, 8, 8, 8, 8, 8, 8, 8, 8, 8, 8, 8, 8, 8, 8, 8, 8, 8, 8, 8, 8, 8, 8, 8, 8, 8, 8, 8, 8, 8, 8, 8, 8, 8, 8, 8, 8, 8, 8, 8, 8, 8, 8, 8, 8, 8, 8, 8, 8, 8, 8, 8, 8, 8, 8, 8, 8, 8, 8, 8, 8, 8, 8, 8, 8, 8, 8, 8, 8, 8, 8, 8, 8, 8, 8, 8, 8, 8, 8, 8, 8, 8, 8, 8, 8, 8, 8, 8, 8, 8, 8, 8, 8, 8, 8, 8, 8, 8, 8, 8, 8, 8, 8, 8, 8, 8, 8] : List UInt8)) rfl) (.t .z) h11 h12) rfl rfl ?_
        refine lRd (dConvB som_5 und_3 rfl (.t .z)) rfl rfl ?_
        refine lRd (dAddI (.t (.s (.s (.s (.s .z))))) (.t .z)) rfl rfl ?_
        refine lRdK (dAssign (.t .z)) (.k (.k (.k (.k (.k (.k (.d (Keep.refl _)))))))) rfl rfl ?_
        refine lKeep (.k .n) ?_
        refine lNil ?_
        refine xCode ?_
        refine cRet ?_
        exact rDone (rs := [.tmp 2]) rfl (.t .z .n) hD (.inl rfl) () rfl .nil

-- internal/strconv.bool2[int]
def internal_strconv_bool2_int_m (a0 : Bool) : Option (Int) := (if a0 = true then some 1 else some 0)
theorem internal_strconv_bool2_int_c (a0 : Bool) : Con Tryz.prog 192 #[.bool a0] [] (internal_strconv_bool2_int_m a0) (fun (o : Int) (x : Unit) => .int .i64 o) (fun (o : Int) (x : Unit) => []) := by
  unfold internal_strconv_bool2_int_m
  refine con (args := [.bool a0]) Tryz.func192 rfl 4 rfl (.c .n) rfl fun c hD => ?_
  refine cSeq ?_
  refine cRegion ?_
  refine lRd (dAssign (.c rfl)) rfl rfl ?_
  refine lNil ?_
  refine xCode ?_
  refine cSeq ?_
  refine cSeq ?_
  refine cRegion ?_
  refine lRd (dMove (.t (.s .z))) rfl rfl ?_
  refine lKeep (.k (.k .n)) ?_
  refine lNil ?_
  refine xCode ?_
  refine cCondB (.t .z) (fun h1 => ?_) (fun h1 => ?_)
  · refine cSeq ?_
    refine cRegion ?_
    refine lRdK (dAssign (.c rfl)) (.k (.d (Keep.refl _))) rfl rfl ?_
    refine lKeep (.k .n) ?_
    refine lNil ?_
    refine xCode ?_
    refine cRet ?_
    exact rDone (rs := [.tmp 2]) rfl (.t .z .n) hD (.inl rfl) () rfl .nil
  · refine cSkip ?_
    refine xCode ?_
    refine cSeq ?_
    refine cRegion ?_
    refine lRdK (dAssign (.c rfl)) (.k (.d (Keep.refl _))) rfl rfl ?_
    refine lKeep (.k .n) ?_
    refine lNil ?_
    refine xCode ?_
    refine cRet ?_
    exact rDone (rs := [.tmp 2]) rfl (.t .z .n) hD (.inl rfl) () rfl .nil

-- internal/strconv.formatBase10
def internal_strconv_formatBase10_l1 (K : Nat) (a0 : (List UInt8)) : Nat → (Unit) → Option (Unit)
  | 0, _ => none
  | n + 1, s1 => (if (a0.length : Int) ≥ 8 then none else some ())
def internal_strconv_formatBase10_m (K : Nat) (a0 : (List UInt8)) (a1 : Int) : Option (Unit) := (internal_strconv_formatBase10_l1 K a0 K ()).bind fun (s7 : Unit) => ((if (a0.length : Int) ≥ 4 then none else some ())).bind fun (s10 : Unit) => ((if (a0.length : Int) ≥ 2 then none else some ())).bind fun (s13 : Unit) => (if (a0.length : Int) > 0 then none else some ())
theorem internal_strconv_formatBase10_c (K : Nat) (a0 : (List UInt8)) (a1 : Int) (v0_0 : Value) : Con Tryz.prog 161 #[v0_0, .int .u64 a1] [.ro (kSl kB) [v0_0] a0] (internal_strconv_formatBase10_m K a0 a1) (fun (o : Unit) (x : Unit) => .tuple #[]) (fun (o : Unit) (x : Unit) => []) := by
  unfold internal_strconv_formatBase10_m
  refine con (args := [v0_0, .int .u64 a1]) Tryz.func161 rfl 167 rfl (.c (.c .n)) rfl fun c hD => ?_
  refine cSeq ?_
  refine cRegion ?_
  refine lRd (dMove (.t .z)) rfl rfl ?_
  refine lRd (dLen (at_ := #[49]) (slRo .z) rfl und_49 (.t .z)) rfl rfl ?_
  refine lRd (dAssign (.t .z)) rfl rfl ?_
  refine lKeep (.k (.d (.d (.k (.k .n))))) ?_
  refine lNil ?_
  refine xCode ?_
  refine cSeq ?_
  refine cLoopB (S := Unit) (X := Unit) (S' := Unit) (X' := Unit) (internal_strconv_formatBase10_l1 K a0) (fun (s : Unit) (x : Unit) => [(4, .int .i64 (a0.length : Int)), (0, v0_0), (1, .int .u64 a1)]) (fun (s : Unit) (x : Unit) => [.ro (kSl kB) [v0_0] a0]) (fun (s : Unit) (x : Unit) => [(4, .int .i64 (a0.length : Int)), (0, v0_0), (1, .int .u64 a1)]) (fun (s : Unit) (x : Unit) => [.ro (kSl kB) [v0_0] a0]) K () () (.c .z (.c (.s .z) (.c (.s (.s .z)) .n))) (.c .z .nil) (fun _ => rfl) (fun n3 I4 h5 s1 x2 => ?_) (fun s7 x8 => ?_)
  · rw [internal_strconv_formatBase10_l1]
    refine cSeq ?_
    refine cSeq ?_
    refine cRegion ?_
    refine lRd (dMove (.t .z)) rfl rfl ?_
    refine lRd (dGe (.t .z) (.c rfl)) rfl rfl ?_
    refine lNil ?_
    refine xCode ?_
    refine cCond (.t .z) (fun h6 => ?_) (fun h6 => ?_)
    · refine cSkip ?_
      refine xCode ?_
      refine cBlock ?_
      refine cSeq ?_
      refine cRegion ?_
      refine lRd (dMove (.t (.s (.s (.s (.s .z)))))) rfl rfl ?_
      refine lRd (dRem (.t .z) (.c rfl) (by decide)) rfl rfl ?_
      refine lRd (dConv som_218 und_247 (.t .z)) rfl rfl ?_
      refine lRd (dAssign (.t .z)) rfl rfl ?_
      refine lNil ?_
      refine xCode ?_
      refine cSeq ?_
      refine cRegion ?_
      refine lRd (dMove (.t (.s (.s (.s (.s (.s (.s (.s (.s .z)))))))))) rfl rfl ?_
      refine lRd (dQuo (.t .z) (.c rfl) (by decide)) rfl rfl ?_
      refine lRdK (dAssign (.t .z)) (.k (.k (.k (.k (.k (.k (.k (.k (.k (.k (.d (Keep.refl _)))))))))))) rfl rfl ?_
      refine lNil ?_
      refine xCode ?_
      refine cSeq ?_
      refine cRegion ?_
      refine lRd (dMove (.t (.s (.s (.s .z))))) rfl rfl ?_
      refine lRd (dQuo (.t .z) (.c rfl) (by decide)) rfl rfl ?_
      refine lRd (dMove (.t (.s (.s (.s (.s (.s .z))))))) rfl rfl ?_
      refine lRd (dRem (.t .z) (.c rfl) (by decide)) rfl rfl ?_
      refine lRd (dAssign (.t (.s (.s .z)))) rfl rfl ?_
      refine lRd (dAssign (.t (.s .z))) rfl rfl ?_
      refine lNil ?_
      refine xCode ?_
      refine cSeq ?_
      refine cRegion ?_
      refine lRd (dMove (.t .z)) rfl rfl ?_
      refine lRd (dQuo (.t .z) (.c rfl) (by decide)) rfl rfl ?_
      refine lRd (dMul (.t .z) (.c rfl)) rfl rfl ?_
      refine lRd (dMove (.t (.s (.s (.s .z))))) rfl rfl ?_
      refine lRd (dRem (.t .z) (.c rfl) (by decide)) rfl rfl ?_
      refine lRd (dMul (.t .z) (.c rfl)) rfl rfl ?_
      refine lRd (dAssign (.t (.s (.s (.s .z))))) rfl rfl ?_
      refine lRd (dAssign (.t (.s .z))) rfl rfl ?_
      refine lNil ?_
      refine xCode ?_
      refine cSeq ?_
      refine cRegion ?_
      refine lRd (dMove (.t (.s (.s (.s (.s (.s (.s (.s (.s (.s .z))))))))))) rfl rfl ?_
      refine lRd (dQuo (.t .z) (.c rfl) (by decide)) rfl rfl ?_
      refine lRd (dMul (.t .z) (.c rfl)) rfl rfl ?_
      refine lRd (dMove (.t (.s (.s (.s (.s (.s (.s (.s (.s (.s (.s (.s (.s .z)))))))))))))) rfl rfl ?_
      refine lRd (dRem (.t .z) (.c rfl) (by decide)) rfl rfl ?_
      refine lRd (dMul (.t .z) (.c rfl)) rfl rfl ?_
      refine lRd (dAssign (.t (.s (.s (.s .z))))) rfl rfl ?_
      refine lRd (dAssign (.t (.s .z))) rfl rfl ?_
      refine lNil ?_
      refine xCode ?_
      refine cSeq ?_
      exact cStuck
    · refine cExit ?_
      refine xOver ?_
      refine xOverF ?_
      exact xJoin () () (.c (.s (.s .z)) (.c (.s (.s (.s .z))) (.c (.s (.s (.s (.s .z)))) .n))) (.c .z .nil)
  · refine xCode ?_
    refine cSeq ?_
    refine cRegion ?_
    refine lRd (dMove (.t (.s (.s .z)))) rfl rfl ?_
    refine lRd (dConv som_218 und_247 (.t .z)) rfl rfl ?_
    refine lRd (dAssign (.t .z)) rfl rfl ?_
    refine lKeep (.k (.d (.d (.k (.k .n))))) ?_
    refine lNil ?_
    refine xCode ?_
    refine cSeq ?_
    refine cSeq ?_
    refine cRegion ?_
    refine lRd (dMove (.t (.s .z))) rfl rfl ?_
    refine lRd (dGe (.t .z) (.c rfl)) rfl rfl ?_
    refine lKeep (.k (.d (.k (.k (.k .n))))) ?_
    refine lNil ?_
    refine xCode ?_
    refine cJoin (S := Unit) (X := Unit) (fun (s : Unit) (x : Unit) => [(12, .int .u32 (IntKind.wrap .u32 a1)), (4, .int .i64 (a0.length : Int)), (0, v0_0)]) (fun (s : Unit) (x : Unit) => [.ro (kSl kB) [v0_0] a0]) ?_ (fun s10 x11 => ?_)
    · refine cCond (.t .z) (fun h9 => ?_) (fun h9 => ?_)
      · refine cSeq ?_
        refine cRegion ?_
        refine lRd (dMove (.t (.s .z))) rfl rfl ?_
        refine lRd (dRem (.t .z) (.c rfl) (by decide)) rfl rfl ?_
        refine lRd (dAssign (.t .z)) rfl rfl ?_
        refine lKeep (.k (.d (.d (.d (.k (.k (.k .n))))))) ?_
        refine lNil ?_
        refine xCode ?_
        refine cSeq ?_
        refine cRegion ?_
        refine lRd (dMove (.t (.s .z))) rfl rfl ?_
        refine lRd (dQuo (.t .z) (.c rfl) (by decide)) rfl rfl ?_
        refine lRdK (dAssign (.t .z)) (.k (.k (.k (.d (Keep.refl _))))) rfl rfl ?_
        refine lKeep (.k (.d (.d (.k (.k (.k .n)))))) ?_
        refine lNil ?_
        refine xCode ?_
        refine cSeq ?_
        refine cRegion ?_
        refine lRd (dMove (.t (.s .z))) rfl rfl ?_
        refine lRd (dQuo (.t .z) (.c rfl) (by decide)) rfl rfl ?_
        refine lRd (dMul (.t .z) (.c rfl)) rfl rfl ?_
        refine lRd (dMove (.t (.s (.s (.s (.s .z)))))) rfl rfl ?_
        refine lRd (dRem (.t .z) (.c rfl) (by decide)) rfl rfl ?_
        refine lRd (dMul (.t .z) (.c rfl)) rfl rfl ?_
        refine lRd (dAssign (.t (.s (.s (.s .z))))) rfl rfl ?_
        refine lRd (dAssign (.t (.s .z))) rfl rfl ?_
        refine lKeep (.k (.k (.d (.d (.d (.d (.d (.d (.k (.d (.k (.k .n)))))))))))) ?_
        refine lNil ?_
        refine xCode ?_
        refine cSeq ?_
        exact cStuck
      · refine cSkip ?_
        exact xJoin () () (.c (.s .z) (.c (.s (.s .z)) (.c (.s (.s (.s .z))) .n))) (.c .z .nil)
    · refine xCode ?_
      refine cSeq ?_
      refine cSeq ?_
      refine cRegion ?_
      refine lRd (dMove (.t (.s .z))) rfl rfl ?_
      refine lRd (dGe (.t .z) (.c rfl)) rfl rfl ?_
      refine lKeep (.k (.d (.k (.k (.k .n))))) ?_
      refine lNil ?_
      refine xCode ?_
      refine cJoin (S := Unit) (X := Unit) (fun (s : Unit) (x : Unit) => [(12, .int .u32 (IntKind.wrap .u32 a1)), (4, .int .i64 (a0.length : Int)), (0, v0_0)]) (fun (s : Unit) (x : Unit) => [.ro (kSl kB) [v0_0] a0]) ?_ (fun s13 x14 => ?_)
      · refine cCond (.t .z) (fun h12 => ?_) (fun h12 => ?_)
        · refine cSeq ?_
          refine cRegion ?_
          refine lRd (dMove (.t (.s .z))) rfl rfl ?_
          refine lRd (dRem (.t .z) (.c rfl) (by decide)) rfl rfl ?_
          refine lRd (dMul (.t .z) (.c rfl)) rfl rfl ?_
          refine lRd (dAssign (.t .z)) rfl rfl ?_
          refine lKeep (.k (.d (.d (.d (.d (.k (.k (.k .n)))))))) ?_
          refine lNil ?_
          refine xCode ?_
          refine cSeq ?_
          refine cRegion ?_
          refine lRd (dMove (.t (.s .z))) rfl rfl ?_
          refine lRd (dQuo (.t .z) (.c rfl) (by decide)) rfl rfl ?_
          refine lRdK (dAssign (.t .z)) (.k (.k (.k (.d (Keep.refl _))))) rfl rfl ?_
          refine lKeep (.k (.d (.d (.k (.k (.k .n)))))) ?_
          refine lNil ?_
          refine xCode ?_
          refine cSeq ?_
          exact cStuck
        · refine cSkip ?_
          exact xJoin () () (.c (.s .z) (.c (.s (.s .z)) (.c (.s (.s (.s .z))) .n))) (.c .z .nil)
      · refine xCode ?_
        refine cSeq ?_
        refine cRegion ?_
        refine lRd (dMove (.t (.s .z))) rfl rfl ?_
        refine lRd (dGt (.t .z) (.c rfl)) rfl rfl ?_
        refine lKeep (.k (.d (.k (.d (.k .n))))) ?_
        refine lNil ?_
        refine xCode ?_
        refine cCond (.t .z) (fun h15 => ?_) (fun h15 => ?_)
        · exact cStuck
        · refine cSkip ?_
          exact xDone (rs := []) rfl .n hD () rfl .nil

-- internal/strconv.isPowerOfTwo
def internal_strconv_isPowerOfTwo_m (a0 : Int) : Option (Bool) := some (decide ((iand .i64 a0 (w64 (a0 - 1))) = 0))
theorem internal_strconv_isPowerOfTwo_c (a0 : Int) : Con Tryz.prog 193 #[.int .i64 a0] [] (internal_strconv_isPowerOfTwo_m a0) (fun (o : Bool) (x : Unit) => .bool o) (fun (o : Bool) (x : Unit) => []) := by
  unfold internal_strconv_isPowerOfTwo_m
  refine con (args := [.int .i64 a0]) Tryz.func193 rfl 8 rfl (.c .n) rfl fun c hD => ?_
  refine cSeq ?_
  refine cRegion ?_
  refine lRd (dAssign (.c rfl)) rfl rfl ?_
  refine lNil ?_
  refine xCode ?_
  refine cSeq ?_
  refine cRegion ?_
  refine lRd (dMove (.t (.s .z))) rfl rfl ?_
  refine lRd (dMove (.t (.s (.s .z)))) rfl rfl ?_
  refine lRd (dSubI (.t .z) (.c rfl)) rfl rfl ?_
  refine lRd (dAnd (.t (.s (.s .z))) (.t .z)) rfl rfl ?_
  refine lRd (dEq (.t .z) (.c rfl)) rfl rfl ?_
  refine lRdK (dAssign (.t .z)) (.k (.k (.k (.k (.k (.d (Keep.refl _))))))) rfl rfl ?_
  refine lKeep (.k .n) ?_
  refine lNil ?_
  refine xCode ?_
  refine cRet ?_
  exact rDone (rs := [.tmp 2]) rfl (.t .z .n) hD (.inl rfl) () rfl .nil

-- math/bits.TrailingZeros32
def math_bits_TrailingZeros32_m (a0 : Int) : Option (Int) := (if a0 = 0 then some 32 else none)
theorem math_bits_TrailingZeros32_c (a0 : Int) : Con Tryz.prog 221 #[.int .u32 a0] [] (math_bits_TrailingZeros32_m a0) (fun (o : Int) (x : Unit) => .int .i64 o) (fun (o : Int) (x : Unit) => []) := by
  unfold math_bits_TrailingZeros32_m
  refine con (args := [.int .u32 a0]) Tryz.func221 rfl 14 rfl (.c .n) rfl fun c hD => ?_
  refine cSeq ?_
  refine cRegion ?_
  refine lRd (dAssign (.c rfl)) rfl rfl ?_
  refine lNil ?_
  refine xCode ?_
  refine cSeq ?_
  refine cSeq ?_
  refine cRegion ?_
  refine lRd (dMove (.t (.s .z))) rfl rfl ?_
  refine lRd (dEq (.t .z) (.c rfl)) rfl rfl ?_
  refine lKeep (.k (.d (.k (.k .n)))) ?_
  refine lNil ?_
  refine xCode ?_
  refine cCond (.t .z) (fun h1 => ?_) (fun h1 => ?_)
  · refine cSeq ?_
    refine cRegion ?_
    refine lRdK (dAssign (.c rfl)) (.k (.d (Keep.refl _))) rfl rfl ?_
    refine lKeep (.k (.d (.k .n))) ?_
    refine lNil ?_
    refine xCode ?_
    refine cRet ?_
    exact rDone (rs := [.tmp 2]) rfl (.t .z .n) hD (.inl rfl) () rfl .nil
  · refine cSkip ?_
    refine xCode ?_
    refine cSeq ?_
    exact cStuck

-- math/bits.TrailingZeros64
def math_bits_TrailingZeros64_m (a0 : Int) : Option (Int) := (if a0 = 0 then some 64 else none)
theorem math_bits_TrailingZeros64_c (a0 : Int) : Con Tryz.prog 222 #[.int .u64 a0] [] (math_bits_TrailingZeros64_m a0) (fun (o : Int) (x : Unit) => .int .i64 o) (fun (o : Int) (x : Unit) => []) := by
  unfold math_bits_TrailingZeros64_m
  refine con (args := [.int .u64 a0]) Tryz.func222 rfl 14 rfl (.c .n) rfl fun c hD => ?_
  refine cSeq ?_
  refine cRegion ?_
  refine lRd (dAssign (.c rfl)) rfl rfl ?_
  refine lNil ?_
  refine xCode ?_
  refine cSeq ?_
  refine cSeq ?_
  refine cRegion ?_
  refine lRd (dMove (.t (.s .z))) rfl rfl ?_
  refine lRd (dEq (.t .z) (.c rfl)) rfl rfl ?_
  refine lKeep (.k (.d (.k (.k .n)))) ?_
  refine lNil ?_
  refine xCode ?_
  refine cCond (.t .z) (fun h1 => ?_) (fun h1 => ?_)
  · refine cSeq ?_
    refine cRegion ?_
    refine lRdK (dAssign (.c rfl)) (.k (.d (Keep.refl _))) rfl rfl ?_
    refine lKeep (.k (.d (.k .n))) ?_
    refine lNil ?_
    refine xCode ?_
    refine cRet ?_
    exact rDone (rs := [.tmp 2]) rfl (.t .z .n) hD (.inl rfl) () rfl .nil
  · refine cSkip ?_
    refine xCode ?_
    refine cSeq ?_
    exact cStuck

-- math/bits.TrailingZeros
def math_bits_TrailingZeros_m (a0 : Int) : Option (Int) := (math_bits_TrailingZeros64_m a0).bind fun o1 => some o1
theorem math_bits_TrailingZeros_c (a0 : Int) : Con Tryz.prog 194 #[.int .u64 a0] [] (math_bits_TrailingZeros_m a0) (fun (o : Int) (x : Unit) => .int .i64 o) (fun (o : Int) (x : Unit) => []) := by
  unfold math_bits_TrailingZeros_m
  refine con (args := [.int .u64 a0]) Tryz.func194 rfl 8 rfl (.c .n) rfl fun c hD => ?_
  refine cSeq ?_
  refine cRegion ?_
  refine lRd (dAssign (.c rfl)) rfl rfl ?_
  refine lNil ?_
  refine xCode ?_
  refine cSeq ?_
  refine cCondF (.c rfl) rfl ?_
  refine cSkip ?_
  refine xCode ?_
  refine cSeq ?_
  refine cRegion ?_
  refine lRd (dMove (.t (.s .z))) rfl rfl ?_
  refine lCall fok_222 (.c (.t .z) .n) (math_bits_TrailingZeros64_c a0) .n rfl rfl fun o1 x2 h3 => ?_
  refine lRdK (dAssign (.t .z)) (.k (.k (.d (Keep.refl _)))) rfl rfl ?_
  refine lKeep (.k .n) ?_
  refine lNil ?_
  refine xCode ?_
  refine cRet ?_
  exact rDone (rs := [.tmp 2]) rfl (.t .z .n) hD (.inl rfl) () rfl .nil

-- internal/strconv.FormatInt
def internal_strconv_FormatInt_m (a0 : Int) (a1 : Int) : Option ((List UInt8)) := (if a1 = 10 then ((if 0 ≤ a0 then some (decide (a0 < 100)) else some false)).bind fun (s3 : Bool) => (if s3 = true then (internal_strconv_small_m a0).bind fun o6 => some o6 else ((if a0 < 0 then some (IntKind.wrap .u64 (0 - IntKind.wrap .u64 a0)) else some (IntKind.wrap .u64 a0))).bind fun (s11 : Int) => none) else none)
theorem internal_strconv_FormatInt_c (a0 : Int) (a1 : Int) : Con Tryz.prog 119 #[.int .i64 a0, .int .i64 a1] [] (internal_strconv_FormatInt_m a0 a1) (fun (o : (List UInt8)) (x : Unit) => vS o) (fun (o : (List UInt8)) (x : Unit) => []) := by
  unfold internal_strconv_FormatInt_m
  refine con (args := [.int .i64 a0, .int .i64 a1]) Tryz.func119 rfl 54 rfl (.c (.c .n)) rfl fun c hD => ?_
  refine cSeq ?_
  refine cRegion ?_
  refine lRd (dAssign (.c (v' := vS ([] : List UInt8)) rfl)) rfl rfl ?_
  refine lNil ?_
  refine xCode ?_
  refine cSeq ?_
  refine cSeq ?_
  refine cRegion ?_
  refine lRd (dMove (.t (.s (.s .z)))) rfl rfl ?_
  refine lRd (dEq (.t .z) (.c rfl)) rfl rfl ?_
  refine lKeep (.k (.d (.k (.k (.k .n))))) ?_
  refine lNil ?_
  refine xCode ?_
  refine cCond (.t .z) (fun h1 => ?_) (fun h1 => ?_)
  · refine cSeq ?_
    refine cSeq ?_
    refine cJoin (S := Bool) (X := Unit) (fun (s : Bool) (x : Unit) => [(17, .bool s), (4, vS ([] : List UInt8)), (0, .int .i64 a0), (1, .int .i64 a1)]) (fun (s : Bool) (x : Unit) => []) ?_ (fun s3 x4 => ?_)
    · refine cRegion ?_
      refine lRd (dMove (.t (.s (.s .z)))) rfl rfl ?_
      refine lRd (dLe (.c rfl) (.t .z)) rfl rfl ?_
      refine lRd (dMove (.t .z)) rfl rfl ?_
      refine lCase (fun h2 => ?_) (fun h2 => ?_)
      · refine lRdG rfl .z (decide_eq_true h2) (dMove (.t (.s (.s (.s (.s (.s .z))))))) rfl rfl ?_
        refine lRdG rfl (.s .z) (decide_eq_true h2) (dLt (.t .z) (.c rfl)) rfl rfl ?_
        refine lRd (dPickT (.t (.s (.s .z))) (decide_eq_true h2) (.t .z)) rfl rfl ?_
        refine lKeep (.k (.d (.d (.d (.d (.d (.d (.k (.k (.k .n)))))))))) ?_
        refine lNil ?_
        exact xJoin (decide (a0 < 100)) () (.c .z (.c (.s .z) (.c (.s (.s .z)) (.c (.s (.s (.s .z))) .n)))) .nil
      · refine lPass rfl .z (nbT (decide_eq_false h2)) rfl ?_
        refine lPass rfl .z (nbT (decide_eq_false h2)) rfl ?_
        refine lRd (dPickF (.t .z) (decide_eq_false h2) (.c rfl)) rfl rfl ?_
        refine lKeep (.k (.d (.d (.d (.d (.k (.k (.k .n)))))))) ?_
        refine lNil ?_
        exact xJoin false () (.c .z (.c (.s .z) (.c (.s (.s .z)) (.c (.s (.s (.s .z))) .n)))) .nil
    · refine xCode ?_
      refine cCondB (.t .z) (fun h5 => ?_) (fun h5 => ?_)
      · refine cSeq ?_
        refine cRegion ?_
        refine lRd (dMove (.t (.s (.s .z)))) rfl rfl ?_
        refine lCall fok_159 (.c (.t .z) .n) (internal_strconv_small_c a0) .n rfl rfl fun o6 x7 h8 => ?_
        refine lRdK (dAssign (.t .z)) (.k (.k (.k (.d (Keep.refl _))))) rfl rfl ?_
        refine lKeep (.k (.d (.d (.d (.k (.k .n)))))) ?_
        refine lNil ?_
        refine xCode ?_
        refine cRet ?_
        exact rDone (rs := [.tmp 4]) rfl (.t .z .n) hD (.inl rfl) () rfl .nil
      · refine cSkip ?_
        refine xCode ?_
        refine cSeq ?_
        refine cRegion ?_
        refine lCh (cAlloc (cs := [vB 0, vB 0, vB 0, vB 0, vB 0, vB 0, vB 0, vB 0, vB 0, vB 0, vB 0, vB 0, vB 0, vB 0, vB 0, vB 0, vB 0, vB 0, vB 0, vB 0, vB 0, vB 0, vB 0, vB 0]) zer_217 rfl) rfl rfl fun b9 => ?_
        refine lKeep (.k (.d (.k (.k (.k .n))))) ?_
        refine lNil ?_
        refine xCode ?_
        refine cSeq ?_
        refine cRegion ?_
        refine lRd (dMove (.t (.s (.s .z)))) rfl rfl ?_
        refine lRd (dConv som_2 und_218 (.t .z)) rfl rfl ?_
        refine lRd (dAssign (.t .z)) rfl rfl ?_
        refine lKeep (.k (.d (.d (.k (.k (.k (.k .n))))))) ?_
        refine lNil ?_
        refine xCode ?_
        refine cSeq ?_
        refine cSeq ?_
        refine cRegion ?_
        refine lRd (dMove (.t (.s (.s (.s .z))))) rfl rfl ?_
        refine lRd (dLt (.t .z) (.c rfl)) rfl rfl ?_
        refine lKeep (.k (.d (.k (.k (.k (.k (.k .n))))))) ?_
        refine lNil ?_
        refine xCode ?_
        refine cJoin (S := Int) (X := Unit) (fun (s : Int) (x : Unit) => [(6, .int .u64 s), (5, .pointer (some ⟨b9, 0, none⟩)), (4, vS ([] : List UInt8)), (0, .int .i64 a0), (1, .int .i64 a1)]) (fun (s : Int) (x : Unit) => [.blk b9 [vB 0, vB 0, vB 0, vB 0, vB 0, vB 0, vB 0, vB 0, vB 0, vB 0, vB 0, vB 0, vB 0, vB 0, vB 0, vB 0, vB 0, vB 0, vB 0, vB 0, vB 0, vB 0, vB 0, vB 0] 217]) ?_ (fun s11 x12 => ?_)
        · refine cCond (.t .z) (fun h10 => ?_) (fun h10 => ?_)
          · refine cRegion ?_
            refine lRd (dMove (.t (.s .z))) rfl rfl ?_
            refine lRd (dNeg (.t .z)) rfl rfl ?_
            refine lRdK (dAssign (.t .z)) (.k (.k (.k (.d (Keep.refl _))))) rfl rfl ?_
            refine lKeep (.k (.d (.d (.d (.k (.k (.k (.k .n)))))))) ?_
            refine lNil ?_
            exact xJoin (IntKind.wrap .u64 (0 - IntKind.wrap .u64 a0)) () (.c .z (.c (.s .z) (.c (.s (.s .z)) (.c (.s (.s (.s .z))) (.c (.s (.s (.s (.s .z)))) .n))))) (.c .z .nil)
          · refine cSkip ?_
            exact xJoin (IntKind.wrap .u64 a0) () (.c (.s .z) (.c (.s (.s .z)) (.c (.s (.s (.s .z))) (.c (.s (.s (.s (.s .z)))) (.c (.s (.s (.s (.s (.s .z))))) .n))))) (.c .z .nil)
        · refine xCode ?_
          refine cSeq ?_
          exact cStuck
  · refine cSkip ?_
    refine xCode ?_
    refine cSeq ?_
    exact cStuck

-- internal/strconv.Itoa
def internal_strconv_Itoa_m (a0 : Int) : Option ((List UInt8)) := (internal_strconv_FormatInt_m a0 10).bind fun o1 => some o1
theorem internal_strconv_Itoa_c (a0 : Int) : Con Tryz.prog 77 #[.int .i64 a0] [] (internal_strconv_Itoa_m a0) (fun (o : (List UInt8)) (x : Unit) => vS o) (fun (o : (List UInt8)) (x : Unit) => []) := by
  unfold internal_strconv_Itoa_m
  refine con (args := [.int .i64 a0]) Tryz.func77 rfl 5 rfl (.c .n) rfl fun c hD => ?_
  refine cSeq ?_
  refine cRegion ?_
  refine lRd (dAssign (.c (v' := vS ([] : List UInt8)) rfl)) rfl rfl ?_
  refine lNil ?_
  refine xCode ?_
  refine cSeq ?_
  refine cRegion ?_
  refine lRd (dMove (.t (.s .z))) rfl rfl ?_
  refine lCall fok_119 (.c (.t .z) (.c (.c rfl) .n)) (internal_strconv_FormatInt_c a0 10) .n rfl rfl fun o1 x2 h3 => ?_
  refine lRdK (dAssign (.t .z)) (.k (.k (.d (Keep.refl _)))) rfl rfl ?_
  refine lKeep (.k .n) ?_
  refine lNil ?_
  refine xCode ?_
  refine cRet ?_
  exact rDone (rs := [.tmp 2]) rfl (.t .z .n) hD (.inl rfl) () rfl .nil

-- strconv.Itoa
def strconv_Itoa_m (a0 : Int) : Option ((List UInt8)) := (internal_strconv_Itoa_m a0).bind fun o1 => some o1
theorem strconv_Itoa_c (a0 : Int) : Con Tryz.prog 38 #[.int .i64 a0] [] (strconv_Itoa_m a0) (fun (o : (List UInt8)) (x : Unit) => vS o) (fun (o : (List UInt8)) (x : Unit) => []) := by
  unfold strconv_Itoa_m
  refine con (args := [.int .i64 a0]) Tryz.func38 rfl 5 rfl (.c .n) rfl fun c hD => ?_
  refine cSeq ?_
  refine cRegion ?_
  refine lRd (dAssign (.c (v' := vS ([] : List UInt8)) rfl)) rfl rfl ?_
  refine lNil ?_
  refine xCode ?_
  refine cSeq ?_
  refine cRegion ?_
  refine lRd (dMove (.t (.s .z))) rfl rfl ?_
  refine lCall fok_77 (.c (.t .z) .n) (internal_strconv_Itoa_c a0) .n rfl rfl fun o1 x2 h3 => ?_
  refine lRdK (dAssign (.t .z)) (.k (.k (.d (Keep.refl _)))) rfl rfl ?_
  refine lKeep (.k .n) ?_
  refine lNil ?_
  refine xCode ?_
  refine cRet ?_
  exact rDone (rs := [.tmp 2]) rfl (.t .z .n) hD (.inl rfl) () rfl .nil

-- greenscreen/keyboard.plain
def keyboard_plain_m (a0 : UInt8) : Option ((List UInt8)) := (if a0 = (125 : UInt8) then some ([69, 78, 84, 69, 82] : List UInt8) else (if a0 = (109 : UInt8) then some ([67, 76, 69, 65, 82] : List UInt8) else (if a0 = (108 : UInt8) then some ([80, 65, 49] : List UInt8) else (if a0 = (110 : UInt8) then some ([80, 65, 50] : List UInt8) else (if a0 = (107 : UInt8) then some ([80, 65, 51] : List UInt8) else some ([] : List UInt8))))))
theorem keyboard_plain_c (a0 : UInt8) : Con Tryz.prog 39 #[vB a0] [] (keyboard_plain_m a0) (fun (o : (List UInt8)) (x : Unit) => vS o) (fun (o : (List UInt8)) (x : Unit) => []) := by
  unfold keyboard_plain_m
  refine con (args := [vB a0]) Tryz.func39 rfl 14 rfl (.c .n) rfl fun c hD => ?_
  refine cSeq ?_
  refine cRegion ?_
  refine lRd (dAssign (.c (v' := vS ([] : List UInt8)) rfl)) rfl rfl ?_
  refine lNil ?_
  refine xCode ?_
  refine cSeq ?_
  refine cSeq ?_
  refine cRegion ?_
  refine lRd (dMove (.t (.s .z))) rfl rfl ?_
  refine lKeep (.k (.k .n)) ?_
  refine lNil ?_
  refine xCode ?_
  refine cBlock ?_
  refine cSeq ?_
  refine cRegion ?_
  refine lRd (dEqB (.t .z) (.c (v' := vB 125) rfl)) rfl rfl ?_
  refine lRd (dAssign (.t .z)) rfl rfl ?_
  refine lKeep (.k (.d (.k (.k .n)))) ?_
  refine lNil ?_
  refine xCode ?_
  refine cCond (.t .z) (fun h1 => ?_) (fun h1 => ?_)
  · refine cSeq ?_
    refine cRegion ?_
    refine lRdK (dAssign (.c (v' := vS ([69, 78, 84, 69, 82] : List UInt8)) rfl)) (.k (.k (.d (Keep.refl _)))) rfl rfl ?_
    refine lKeep (.k .n) ?_
    refine lNil ?_
    refine xCode ?_
    refine cRet ?_
    exact rDone (rs := [.tmp 2]) rfl (.t .z .n) hD (.inl rfl) () rfl .nil
  · refine cSeq ?_
    refine cRegion ?_
    refine lRd (dEqB (.t (.s .z)) (.c (v' := vB 109) rfl)) rfl rfl ?_
    refine lRd (dAssign (.t .z)) rfl rfl ?_
    refine lKeep (.k (.d (.d (.k (.k .n))))) ?_
    refine lNil ?_
    refine xCode ?_
    refine cCond (.t .z) (fun h2 => ?_) (fun h2 => ?_)
    · refine cSeq ?_
      refine cRegion ?_
      refine lRdK (dAssign (.c (v' := vS ([67, 76, 69, 65, 82] : List UInt8)) rfl)) (.k (.k (.d (Keep.refl _)))) rfl rfl ?_
      refine lKeep (.k .n) ?_
      refine lNil ?_
      refine xCode ?_
      refine cRet ?_
      exact rDone (rs := [.tmp 2]) rfl (.t .z .n) hD (.inl rfl) () rfl .nil
    · refine cSeq ?_
      refine cRegion ?_
      refine lRd (dEqB (.t (.s .z)) (.c (v' := vB 108) rfl)) rfl rfl ?_
      refine lRd (dAssign (.t .z)) rfl rfl ?_
      refine lKeep (.k (.d (.d (.k (.k .n))))) ?_
      refine lNil ?_
      refine xCode ?_
      refine cCond (.t .z) (fun h3 => ?_) (fun h3 => ?_)
      · refine cSeq ?_
        refine cRegion ?_
        refine lRdK (dAssign (.c (v' := vS ([80, 65, 49] : List UInt8)) rfl)) (.k (.k (.d (Keep.refl _)))) rfl rfl ?_
        refine lKeep (.k .n) ?_
        refine lNil ?_
        refine xCode ?_
        refine cRet ?_
        exact rDone (rs := [.tmp 2]) rfl (.t .z .n) hD (.inl rfl) () rfl .nil
      · refine cSeq ?_
        refine cRegion ?_
        refine lRd (dEqB (.t (.s .z)) (.c (v' := vB 110) rfl)) rfl rfl ?_
        refine lRd (dAssign (.t .z)) rfl rfl ?_
        refine lKeep (.k (.d (.d (.k (.k .n))))) ?_
        refine lNil ?_
        refine xCode ?_
        refine cCond (.t .z) (fun h4 => ?_) (fun h4 => ?_)
        · refine cSeq ?_
          refine cRegion ?_
          refine lRdK (dAssign (.c (v' := vS ([80, 65, 50] : List UInt8)) rfl)) (.k (.k (.d (Keep.refl _)))) rfl rfl ?_
          refine lKeep (.k .n) ?_
          refine lNil ?_
          refine xCode ?_
          refine cRet ?_
          exact rDone (rs := [.tmp 2]) rfl (.t .z .n) hD (.inl rfl) () rfl .nil
        · refine cSeq ?_
          refine cRegion ?_
          refine lRd (dEqB (.t (.s .z)) (.c (v' := vB 107) rfl)) rfl rfl ?_
          refine lRd (dAssign (.t .z)) rfl rfl ?_
          refine lKeep (.k (.d (.d (.d (.k .n))))) ?_
          refine lNil ?_
          refine xCode ?_
          refine cCond (.t .z) (fun h5 => ?_) (fun h5 => ?_)
          · refine cSeq ?_
            refine cRegion ?_
            refine lRdK (dAssign (.c (v' := vS ([80, 65, 51] : List UInt8)) rfl)) (.k (.d (Keep.refl _))) rfl rfl ?_
            refine lKeep (.k .n) ?_
            refine lNil ?_
            refine xCode ?_
            refine cRet ?_
            exact rDone (rs := [.tmp 2]) rfl (.t .z .n) hD (.inl rfl) () rfl .nil
          · refine cSkip ?_
            refine xBlock ?_
            refine xCode ?_
            refine cSeq ?_
            refine cRegion ?_
            refine lRdK (dAssign (.c (v' := vS ([] : List UInt8)) rfl)) (.k (.d (Keep.refl _))) rfl rfl ?_
            refine lKeep (.k .n) ?_
            refine lNil ?_
            refine xCode ?_
            refine cRet ?_
            exact rDone (rs := [.tmp 2]) rfl (.t .z .n) hD (.inl rfl) () rfl .nil

-- greenscreen/keyboard.function
def keyboard_function_m (a0 : UInt8) : Option (Int) := ((if a0 ≥ (241 : UInt8) then some (decide (a0 ≤ (249 : UInt8))) else some false)).bind fun (s2 : Bool) => (if s2 = true then some ((a0 - (240 : UInt8)).toNat : Int) else ((if a0 ≥ (122 : UInt8) then some (decide (a0 ≤ (124 : UInt8))) else some false)).bind fun (s6 : Bool) => (if s6 = true then some (w64 (((a0 - (122 : UInt8)).toNat : Int) + 10)) else ((if a0 ≥ (193 : UInt8) then some (decide (a0 ≤ (201 : UInt8))) else some false)).bind fun (s10 : Bool) => (if s10 = true then some (w64 (((a0 - (192 : UInt8)).toNat : Int) + 12)) else ((if a0 ≥ (74 : UInt8) then some (decide (a0 ≤ (76 : UInt8))) else some false)).bind fun (s14 : Bool) => (if s14 = true then some (w64 (((a0 - (74 : UInt8)).toNat : Int) + 22)) else some 0))))
theorem keyboard_function_c (a0 : UInt8) : Con Tryz.prog 76 #[vB a0] [] (keyboard_function_m a0) (fun (o : Int) (x : Unit) => .int .i64 o) (fun (o : Int) (x : Unit) => []) := by
  unfold keyboard_function_m
  refine con (args := [vB a0]) Tryz.func76 rfl 48 rfl (.c .n) rfl fun c hD => ?_
  refine cSeq ?_
  refine cRegion ?_
  refine lRd (dAssign (.c rfl)) rfl rfl ?_
  refine lNil ?_
  refine xCode ?_
  refine cSeq ?_
  refine cRegion ?_
  refine lRd (dAssign (.c rfl)) rfl rfl ?_
  refine lNil ?_
  refine xCode ?_
  refine cSeq ?_
  refine cBlock ?_
  refine cSeq ?_
  refine cJoin (S := Bool) (X := Unit) (fun (s : Bool) (x : Unit) => [(4, .bool s), (3, .int .i64 0), (2, .int .i64 0), (0, vB a0)]) (fun (s : Bool) (x : Unit) => []) ?_ (fun s2 x3 => ?_)
  · refine cRegion ?_
    refine lRd (dMove (.t (.s (.s .z)))) rfl rfl ?_
    refine lRd (dGeB (.t .z) (.c (v' := vB 241) rfl)) rfl rfl ?_
    refine lRd (dMove (.t .z)) rfl rfl ?_
    refine lCase (fun h1 => ?_) (fun h1 => ?_)
    · refine lRdG rfl .z (decide_eq_true h1) (dMove (.t (.s (.s (.s (.s (.s .z))))))) rfl rfl ?_
      refine lRdG rfl (.s .z) (decide_eq_true h1) (dLeB (.t .z) (.c (v' := vB 249) rfl)) rfl rfl ?_
      refine lRd (dPickT (.t (.s (.s .z))) (decide_eq_true h1) (.t .z)) rfl rfl ?_
      refine lRd (dAssign (.t .z)) rfl rfl ?_
      refine lKeep (.k (.d (.d (.d (.d (.d (.d (.k (.k (.k .n)))))))))) ?_
      refine lNil ?_
      exact xJoin (decide (a0 ≤ (249 : UInt8))) () (.c .z (.c (.s .z) (.c (.s (.s .z)) (.c (.s (.s (.s .z))) .n)))) .nil
    · refine lPass rfl .z (nbT (decide_eq_false h1)) rfl ?_
      refine lPass rfl .z (nbT (decide_eq_false h1)) rfl ?_
      refine lRd (dPickF (.t .z) (decide_eq_false h1) (.c rfl)) rfl rfl ?_
      refine lRd (dAssign (.t .z)) rfl rfl ?_
      refine lKeep (.k (.d (.d (.d (.d (.k (.k (.k .n)))))))) ?_
      refine lNil ?_
      exact xJoin false () (.c .z (.c (.s .z) (.c (.s (.s .z)) (.c (.s (.s (.s .z))) .n)))) .nil
  · refine xCode ?_
    refine cCondB (.t .z) (fun h4 => ?_) (fun h4 => ?_)
    · refine cRegion ?_
      refine lRd (dMove (.t (.s (.s (.s .z))))) rfl rfl ?_
      refine lRd (dSubB (.t .z) (.c (v' := vB 240) rfl)) rfl rfl ?_
      refine lRd (dConvB som_5 und_3 rfl (.t .z)) rfl rfl ?_
      refine lRdK (dAssign (.t .z)) (.k (.k (.k (.k (.d (Keep.refl _)))))) rfl rfl ?_
      refine lKeep (.k (.d (.d (.d (.d (.k .n)))))) ?_
      refine lNil ?_
      refine xBlock ?_
      refine xCode ?_
      refine cSeq ?_
      refine cRegion ?_
      refine lRd (dMove (.t .z)) rfl rfl ?_
      refine lRdK (dAssign (.t .z)) (.k (.k (.d (Keep.refl _)))) rfl rfl ?_
      refine lKeep (.k .n) ?_
      refine lNil ?_
      refine xCode ?_
      refine cRet ?_
      exact rDone (rs := [.tmp 2]) rfl (.t .z .n) hD (.inl rfl) () rfl .nil
    · refine cSeq ?_
      refine cJoin (S := Bool) (X := Unit) (fun (s : Bool) (x : Unit) => [(14, .bool s), (3, .int .i64 0), (2, .int .i64 0), (0, vB a0)]) (fun (s : Bool) (x : Unit) => []) ?_ (fun s6 x7 => ?_)
      · refine cRegion ?_
        refine lRd (dMove (.t (.s (.s (.s .z))))) rfl rfl ?_
        refine lRd (dGeB (.t .z) (.c (v' := vB 122) rfl)) rfl rfl ?_
        refine lRd (dMove (.t .z)) rfl rfl ?_
        refine lCase (fun h5 => ?_) (fun h5 => ?_)
        · refine lRdG rfl .z (decide_eq_true h5) (dMove (.t (.s (.s (.s (.s (.s (.s .z)))))))) rfl rfl ?_
          refine lRdG rfl (.s .z) (decide_eq_true h5) (dLeB (.t .z) (.c (v' := vB 124) rfl)) rfl rfl ?_
          refine lRd (dPickT (.t (.s (.s .z))) (decide_eq_true h5) (.t .z)) rfl rfl ?_
          refine lRd (dAssign (.t .z)) rfl rfl ?_
          refine lKeep (.k (.d (.d (.d (.d (.d (.d (.d (.k (.k (.k .n))))))))))) ?_
          refine lNil ?_
          exact xJoin (decide (a0 ≤ (124 : UInt8))) () (.c .z (.c (.s .z) (.c (.s (.s .z)) (.c (.s (.s (.s .z))) .n)))) .nil
        · refine lPass rfl .z (nbT (decide_eq_false h5)) rfl ?_
          refine lPass rfl .z (nbT (decide_eq_false h5)) rfl ?_
          refine lRd (dPickF (.t .z) (decide_eq_false h5) (.c rfl)) rfl rfl ?_
          refine lRd (dAssign (.t .z)) rfl rfl ?_
          refine lKeep (.k (.d (.d (.d (.d (.d (.k (.k (.k .n))))))))) ?_
          refine lNil ?_
          exact xJoin false () (.c .z (.c (.s .z) (.c (.s (.s .z)) (.c (.s (.s (.s .z))) .n)))) .nil
      · refine xCode ?_
        refine cCondB (.t .z) (fun h8 => ?_) (fun h8 => ?_)
        · refine cRegion ?_
          refine lRd (dMove (.t (.s (.s (.s .z))))) rfl rfl ?_
          refine lRd (dSubB (.t .z) (.c (v' := vB 122) rfl)) rfl rfl ?_
          refine lRd (dConvB som_5 und_3 rfl (.t .z)) rfl rfl ?_
          refine lRd (dAddI (.t .z) (.c rfl)) rfl rfl ?_
          refine lRdK (dAssign (.t .z)) (.k (.k (.k (.k (.k (.d (Keep.refl _))))))) rfl rfl ?_
          refine lKeep (.k (.d (.d (.d (.d (.d (.k .n))))))) ?_
          refine lNil ?_
          refine xBlock ?_
          refine xCode ?_
          refine cSeq ?_
          refine cRegion ?_
          refine lRd (dMove (.t .z)) rfl rfl ?_
          refine lRdK (dAssign (.t .z)) (.k (.k (.d (Keep.refl _)))) rfl rfl ?_
          refine lKeep (.k .n) ?_
          refine lNil ?_
          refine xCode ?_
          refine cRet ?_
          exact rDone (rs := [.tmp 2]) rfl (.t .z .n) hD (.inl rfl) () rfl .nil
        · refine cSeq ?_
          refine cJoin (S := Bool) (X := Unit) (fun (s : Bool) (x : Unit) => [(25, .bool s), (3, .int .i64 0), (2, .int .i64 0), (0, vB a0)]) (fun (s : Bool) (x : Unit) => []) ?_ (fun s10 x11 => ?_)
          · refine cRegion ?_
            refine lRd (dMove (.t (.s (.s (.s .z))))) rfl rfl ?_
            refine lRd (dGeB (.t .z) (.c (v' := vB 193) rfl)) rfl rfl ?_
            refine lRd (dMove (.t .z)) rfl rfl ?_
            refine lCase (fun h9 => ?_) (fun h9 => ?_)
            · refine lRdG rfl .z (decide_eq_true h9) (dMove (.t (.s (.s (.s (.s (.s (.s .z)))))))) rfl rfl ?_
              refine lRdG rfl (.s .z) (decide_eq_true h9) (dLeB (.t .z) (.c (v' := vB 201) rfl)) rfl rfl ?_
              refine lRd (dPickT (.t (.s (.s .z))) (decide_eq_true h9) (.t .z)) rfl rfl ?_
              refine lRd (dAssign (.t .z)) rfl rfl ?_
              refine lKeep (.k (.d (.d (.d (.d (.d (.d (.d (.k (.k (.k .n))))))))))) ?_
              refine lNil ?_
              exact xJoin (decide (a0 ≤ (201 : UInt8))) () (.c .z (.c (.s .z) (.c (.s (.s .z)) (.c (.s (.s (.s .z))) .n)))) .nil
            · refine lPass rfl .z (nbT (decide_eq_false h9)) rfl ?_
              refine lPass rfl .z (nbT (decide_eq_false h9)) rfl ?_
              refine lRd (dPickF (.t .z) (decide_eq_false h9) (.c rfl)) rfl rfl ?_
              refine lRd (dAssign (.t .z)) rfl rfl ?_
              refine lKeep (.k (.d (.d (.d (.d (.d (.k (.k (.k .n))))))))) ?_
              refine lNil ?_
              exact xJoin false () (.c .z (.c (.s .z) (.c (.s (.s .z)) (.c (.s (.s (.s .z))) .n)))) .nil
          · refine xCode ?_
            refine cCondB (.t .z) (fun h12 => ?_) (fun h12 => ?_)
            · refine cRegion ?_
              refine lRd (dMove (.t (.s (.s (.s .z))))) rfl rfl ?_
              refine lRd (dSubB (.t .z) (.c (v' := vB 192) rfl)) rfl rfl ?_
              refine lRd (dConvB som_5 und_3 rfl (.t .z)) rfl rfl ?_
              refine lRd (dAddI (.t .z) (.c rfl)) rfl rfl ?_
              refine lRdK (dAssign (.t .z)) (.k (.k (.k (.k (.k (.d (Keep.refl _))))))) rfl rfl ?_
              refine lKeep (.k (.d (.d (.d (.d (.d (.k .n))))))) ?_
              refine lNil ?_
              refine xBlock ?_
              refine xCode ?_
              refine cSeq ?_
              refine cRegion ?_
              refine lRd (dMove (.t .z)) rfl rfl ?_
              refine lRdK (dAssign (.t .z)) (.k (.k (.d (Keep.refl _)))) rfl rfl ?_
              refine lKeep (.k .n) ?_
              refine lNil ?_
              refine xCode ?_
              refine cRet ?_
              exact rDone (rs := [.tmp 2]) rfl (.t .z .n) hD (.inl rfl) () rfl .nil
            · refine cSeq ?_
              refine cJoin (S := Bool) (X := Unit) (fun (s : Bool) (x : Unit) => [(36, .bool s), (3, .int .i64 0), (2, .int .i64 0), (0, vB a0)]) (fun (s : Bool) (x : Unit) => []) ?_ (fun s14 x15 => ?_)
              · refine cRegion ?_
                refine lRd (dMove (.t (.s (.s (.s .z))))) rfl rfl ?_
                refine lRd (dGeB (.t .z) (.c (v' := vB 74) rfl)) rfl rfl ?_
                refine lRd (dMove (.t .z)) rfl rfl ?_
                refine lCase (fun h13 => ?_) (fun h13 => ?_)
                · refine lRdG rfl .z (decide_eq_true h13) (dMove (.t (.s (.s (.s (.s (.s (.s .z)))))))) rfl rfl ?_
                  refine lRdG rfl (.s .z) (decide_eq_true h13) (dLeB (.t .z) (.c (v' := vB 76) rfl)) rfl rfl ?_
                  refine lRd (dPickT (.t (.s (.s .z))) (decide_eq_true h13) (.t .z)) rfl rfl ?_
                  refine lRd (dAssign (.t .z)) rfl rfl ?_
                  refine lKeep (.k (.d (.d (.d (.d (.d (.d (.d (.k (.k (.k .n))))))))))) ?_
                  refine lNil ?_
                  exact xJoin (decide (a0 ≤ (76 : UInt8))) () (.c .z (.c (.s .z) (.c (.s (.s .z)) (.c (.s (.s (.s .z))) .n)))) .nil
                · refine lPass rfl .z (nbT (decide_eq_false h13)) rfl ?_
                  refine lPass rfl .z (nbT (decide_eq_false h13)) rfl ?_
                  refine lRd (dPickF (.t .z) (decide_eq_false h13) (.c rfl)) rfl rfl ?_
                  refine lRd (dAssign (.t .z)) rfl rfl ?_
                  refine lKeep (.k (.d (.d (.d (.d (.d (.k (.k (.k .n))))))))) ?_
                  refine lNil ?_
                  exact xJoin false () (.c .z (.c (.s .z) (.c (.s (.s .z)) (.c (.s (.s (.s .z))) .n)))) .nil
              · refine xCode ?_
                refine cCondB (.t .z) (fun h16 => ?_) (fun h16 => ?_)
                · refine cRegion ?_
                  refine lRd (dMove (.t (.s (.s (.s .z))))) rfl rfl ?_
                  refine lRd (dSubB (.t .z) (.c (v' := vB 74) rfl)) rfl rfl ?_
                  refine lRd (dConvB som_5 und_3 rfl (.t .z)) rfl rfl ?_
                  refine lRd (dAddI (.t .z) (.c rfl)) rfl rfl ?_
                  refine lRdK (dAssign (.t .z)) (.k (.k (.k (.k (.k (.d (Keep.refl _))))))) rfl rfl ?_
                  refine lKeep (.k (.d (.d (.d (.d (.d (.k .n))))))) ?_
                  refine lNil ?_
                  refine xBlock ?_
                  refine xCode ?_
                  refine cSeq ?_
                  refine cRegion ?_
                  refine lRd (dMove (.t .z)) rfl rfl ?_
                  refine lRdK (dAssign (.t .z)) (.k (.k (.d (Keep.refl _)))) rfl rfl ?_
                  refine lKeep (.k .n) ?_
                  refine lNil ?_
                  refine xCode ?_
                  refine cRet ?_
                  exact rDone (rs := [.tmp 2]) rfl (.t .z .n) hD (.inl rfl) () rfl .nil
                · refine cSkip ?_
                  refine xBlock ?_
                  refine xCode ?_
                  refine cSeq ?_
                  refine cRegion ?_
                  refine lRd (dMove (.t (.s .z))) rfl rfl ?_
                  refine lRdK (dAssign (.t .z)) (.k (.k (.k (.d (Keep.refl _))))) rfl rfl ?_
                  refine lKeep (.k .n) ?_
                  refine lNil ?_
                  refine xCode ?_
                  refine cRet ?_
                  exact rDone (rs := [.tmp 2]) rfl (.t .z .n) hD (.inl rfl) () rfl .nil

-- greenscreen/keyboard.attention
def keyboard_attention_m (a0 : UInt8) : Option ((List UInt8)) := (keyboard_function_m a0).bind fun o1 => (if o1 > 0 then (strconv_Itoa_m o1).bind fun o5 => (cat ([80, 70] : List UInt8) o5).bind fun r8 => some r8 else (keyboard_plain_m a0).bind fun o10 => some o10)
theorem keyboard_attention_c (a0 : UInt8) : Con Tryz.prog 37 #[vB a0] [] (keyboard_attention_m a0) (fun (o : (List UInt8)) (x : Unit) => vS o) (fun (o : (List UInt8)) (x : Unit) => []) := by
  unfold keyboard_attention_m
  refine con (args := [vB a0]) Tryz.func37 rfl 13 rfl (.c .n) rfl fun c hD => ?_
  refine cSeq ?_
  refine cRegion ?_
  refine lRd (dAssign (.c (v' := vS ([] : List UInt8)) rfl)) rfl rfl ?_
  refine lNil ?_
  refine xCode ?_
  refine cSeq ?_
  refine cSeq ?_
  refine cRegion ?_
  refine lRd (dMove (.t (.s .z))) rfl rfl ?_
  refine lCall fok_76 (.c (.t .z) .n) (keyboard_function_c a0) .n rfl rfl fun o1 x2 h3 => ?_
  refine lRd (dAssign (.t .z)) rfl rfl ?_
  refine lKeep (.k (.d (.d (.k (.k .n))))) ?_
  refine lNil ?_
  refine xCode ?_
  refine cSeq ?_
  refine cRegion ?_
  refine lRd (dMove (.t .z)) rfl rfl ?_
  refine lRd (dGt (.t .z) (.c rfl)) rfl rfl ?_
  refine lKeep (.k (.d (.k (.k (.k .n))))) ?_
  refine lNil ?_
  refine xCode ?_
  refine cCond (.t .z) (fun h4 => ?_) (fun h4 => ?_)
  · refine cSeq ?_
    refine cRegion ?_
    refine lRd (dMove (.t (.s .z))) rfl rfl ?_
    refine lCall fok_38 (.c (.t .z) .n) (strconv_Itoa_c o1) .n rfl rfl fun o5 x6 h7 => ?_
    refine lBind fun r8 h9 => ?_
    refine lRd (dCat (.c (v' := vS ([80, 70] : List UInt8)) rfl) (.t .z) h9) rfl rfl ?_
    refine lRdK (dAssign (.t .z)) (.k (.k (.k (.k (.k (.d (Keep.refl _))))))) rfl rfl ?_
    refine lKeep (.k (.d (.d (.d (.d (.d (.k .n))))))) ?_
    refine lNil ?_
    refine xCode ?_
    refine cRet ?_
    exact rDone (rs := [.tmp 2]) rfl (.t .z .n) hD (.inl rfl) () rfl .nil
  · refine cSkip ?_
    refine xCode ?_
    refine cSeq ?_
    refine cRegion ?_
    refine lRd (dMove (.t (.s (.s (.s .z))))) rfl rfl ?_
    refine lCall fok_39 (.c (.t .z) .n) (keyboard_plain_c a0) .n rfl rfl fun o10 x11 h12 => ?_
    refine lRdK (dAssign (.t .z)) (.k (.k (.k (.k (.d (Keep.refl _)))))) rfl rfl ?_
    refine lKeep (.k .n) ?_
    refine lNil ?_
    refine xCode ?_
    refine cRet ?_
    exact rDone (rs := [.tmp 2]) rfl (.t .z .n) hD (.inl rfl) () rfl .nil

-- greenscreen/keyboard.Name
def keyboard_Name_m (a0 : keyboard_Key) : Option ((List UInt8)) := (if a0.f_Kind = 17 then (keyboard_attention_m a0.f_Byte).bind fun o3 => some o3 else ((if a0.f_Kind ≤ 1 then some true else some (decide (a0.f_Kind > 17)))).bind fun (s7 : Bool) => (if s7 = true then some ([] : List UInt8) else (ix glob_0 a0.f_Kind).bind fun y10 => some y10))
theorem keyboard_Name_c (a0 : keyboard_Key) : Con Tryz.prog 9 #[.agg #[.int .i64 a0.f_Kind, vB a0.f_Byte]] [.ro (kVar 0 83) [] (glob_0.map vS)] (keyboard_Name_m a0) (fun (o : (List UInt8)) (x : Unit) => vS o) (fun (o : (List UInt8)) (x : Unit) => []) := by
  unfold keyboard_Name_m
  refine con (args := [.agg #[.int .i64 a0.f_Kind, vB a0.f_Byte]]) Tryz.func9 rfl 23 rfl (.c .n) rfl fun c hD => ?_
  refine cSeq ?_
  refine cRegion ?_
  refine lCh (cBox (cs := [.int .i64 a0.f_Kind, vB a0.f_Byte]) (.t .z) rfl) rfl rfl fun b1 => ?_
  refine lRd (dAssign (.c (v' := vS ([] : List UInt8)) rfl)) rfl rfl ?_
  refine lKeep (.k (.k .n)) ?_
  refine lNil ?_
  refine xCode ?_
  refine cSeq ?_
  refine cBlock ?_
  refine cSeq ?_
  refine cRegion ?_
  refine lRd (dFld fld_23_0 (by decide) (.t (.s .z)) rfl) rfl rfl ?_
  refine lRd (dLoad .z agg_3 (.t .z) rfl) rfl rfl ?_
  refine lRd (dEq (.t .z) (.c rfl)) rfl rfl ?_
  refine lRd (dAssign (.t .z)) rfl rfl ?_
  refine lKeep (.k (.d (.d (.d (.k (.k .n)))))) ?_
  refine lNil ?_
  refine xCode ?_
  refine cCond (.t .z) (fun h2 => ?_) (fun h2 => ?_)
  · refine cSeq ?_
    refine cRegion ?_
    refine lRd (dFld fld_23_1 (by decide) (.t (.s (.s .z))) rfl) rfl rfl ?_
    refine lRd (dLoad .z agg_5 (.t .z) rfl) rfl rfl ?_
    refine lCall fok_37 (.c (.t .z) .n) (keyboard_attention_c a0.f_Byte) .n rfl rfl fun o3 x4 h5 => ?_
    refine lRdK (dAssign (.t .z)) (.k (.k (.k (.k (.d (Keep.refl _)))))) rfl rfl ?_
    refine lKeep (.k (.d (.d (.d (.d (.k .n)))))) ?_
    refine lNil ?_
    refine xCode ?_
    refine cRet ?_
    exact rDone (rs := [.tmp 2]) rfl (.t .z .n) hD (.inl rfl) () rfl .nil
  · refine cSeq ?_
    refine cJoin (S := Bool) (X := Unit) (fun (s : Bool) (x : Unit) => [(10, .bool s), (2, vS ([] : List UInt8)), (1, .pointer (some ⟨b1, 0, none⟩))]) (fun (s : Bool) (x : Unit) => [.blk b1 [.int .i64 a0.f_Kind, vB a0.f_Byte] 23, .ro (kVar 0 83) [] (glob_0.map vS)]) ?_ (fun s7 x8 => ?_)
    · refine cRegion ?_
      refine lRd (dFld fld_23_0 (by decide) (.t (.s (.s .z))) rfl) rfl rfl ?_
      refine lRd (dLoad .z agg_3 (.t .z) rfl) rfl rfl ?_
      refine lRd (dLe (.t .z) (.c rfl)) rfl rfl ?_
      refine lRd (dMove (.t .z)) rfl rfl ?_
      refine lCase (fun h6 => ?_) (fun h6 => ?_)
      · refine lPass rfl .z (nbF (decide_eq_true h6)) rfl ?_
        refine lPass rfl .z (nbF (decide_eq_true h6)) rfl ?_
        refine lPass rfl .z (nbF (decide_eq_true h6)) rfl ?_
        refine lRd (dPickT (.t .z) (decide_eq_true h6) (.c rfl)) rfl rfl ?_
        refine lRd (dAssign (.t .z)) rfl rfl ?_
        refine lKeep (.k (.d (.d (.d (.d (.d (.d (.k (.k .n))))))))) ?_
        refine lNil ?_
        exact xJoin true () (.c .z (.c (.s .z) (.c (.s (.s .z)) .n))) (.c .z (.c .z .nil))
      · refine lRdG rfl .z (decide_eq_false h6) (dFld fld_23_0 (by decide) (.t (.s (.s (.s (.s (.s (.s .z))))))) rfl) rfl rfl ?_
        refine lRdG rfl (.s .z) (decide_eq_false h6) (dLoad .z agg_3 (.t .z) rfl) rfl rfl ?_
        refine lRdG rfl (.s (.s .z)) (decide_eq_false h6) (dGt (.t .z) (.c rfl)) rfl rfl ?_
        refine lRd (dPickF (.t (.s (.s (.s .z)))) (decide_eq_false h6) (.t .z)) rfl rfl ?_
        refine lRd (dAssign (.t .z)) rfl rfl ?_
        refine lKeep (.k (.d (.d (.d (.d (.d (.d (.d (.d (.d (.k (.k .n)))))))))))) ?_
        refine lNil ?_
        exact xJoin (decide (a0.f_Kind > 17)) () (.c .z (.c (.s .z) (.c (.s (.s .z)) .n))) (.c .z (.c .z .nil))
    · refine xCode ?_
      refine cCondB (.t .z) (fun h9 => ?_) (fun h9 => ?_)
      · refine cSeq ?_
        refine cRegion ?_
        refine lRdK (dAssign (.c (v' := vS ([] : List UInt8)) rfl)) (.k (.d (Keep.refl _))) rfl rfl ?_
        refine lKeep (.k (.d (.k .n))) ?_
        refine lNil ?_
        refine xCode ?_
        refine cRet ?_
        exact rDone (rs := [.tmp 2]) rfl (.t .z .n) hD (.inl rfl) () rfl .nil
      · refine cSkip ?_
        refine xBlock ?_
        refine xCode ?_
        refine cSeq ?_
        refine cRegion ?_
        refine lRd (dFld fld_23_0 (by decide) (.t (.s (.s .z))) rfl) rfl rfl ?_
        refine lRd (dLoad .z agg_3 (.t .z) rfl) rfl rfl ?_
        refine lIx fun y10 h11 h12 => ?_
        refine lRd (dIxG (xs := glob_0) und_83 siz_9 (by decide) .g (.t .z) h11 h12) rfl rfl ?_
        refine lRd (dLoadG (f := vS) (.s .z) agg_9 (.t .z) h12) rfl rfl ?_
        refine lRdK (dAssign (.t .z)) (.k (.k (.k (.k (.k (.d (Keep.refl _))))))) rfl rfl ?_
        refine lKeep (.k .n) ?_
        refine lNil ?_
        refine xCode ?_
        refine cRet ?_
        exact rDone (rs := [.tmp 2]) rfl (.t .z .n) hD (.inl rfl) () rfl .nil

-- greenscreen/keyboard.Attention
def keyboard_Attention_m (a0 : UInt8) : Option (Bool) := (keyboard_attention_m a0).bind fun o1 => some (decide (o1 ≠ ([] : List UInt8)))
theorem keyboard_Attention_c (a0 : UInt8) : Con Tryz.prog 10 #[vB a0] [] (keyboard_Attention_m a0) (fun (o : Bool) (x : Unit) => .bool o) (fun (o : Bool) (x : Unit) => []) := by
  unfold keyboard_Attention_m
  refine con (args := [vB a0]) Tryz.func10 rfl 6 rfl (.c .n) rfl fun c hD => ?_
  refine cSeq ?_
  refine cRegion ?_
  refine lRd (dAssign (.c rfl)) rfl rfl ?_
  refine lNil ?_
  refine xCode ?_
  refine cSeq ?_
  refine cRegion ?_
  refine lRd (dMove (.t (.s .z))) rfl rfl ?_
  refine lCall fok_37 (.c (.t .z) .n) (keyboard_attention_c a0) .n rfl rfl fun o1 x2 h3 => ?_
  refine lRd (dNeS (.t .z) (.c (v' := vS ([] : List UInt8)) rfl)) rfl rfl ?_
  refine lRdK (dAssign (.t .z)) (.k (.k (.k (.d (Keep.refl _))))) rfl rfl ?_
  refine lKeep (.k .n) ?_
  refine lNil ?_
  refine xCode ?_
  refine cRet ?_
  exact rDone (rs := [.tmp 2]) rfl (.t .z .n) hD (.inl rfl) () rfl .nil

-- greenscreen/keyboard.Named
def keyboard_Named_l1 (K : Nat) (a0 : (List UInt8)) : Nat → (Int) → Option (Sum (Unit) (keyboard_Key × Bool))
  | 0, _ => none
  | n + 1, s2 => (if s2 < 17 then (keyboard_Name_m (⟨s2, 0⟩ : keyboard_Key)).bind fun o8 => (if o8 = a0 then some (Sum.inr ((⟨s2, 0⟩ : keyboard_Key), true)) else (keyboard_Named_l1 K a0 n) (w64 (s2 + 1))) else some (Sum.inl ()))
def keyboard_Named_l2 (K : Nat) (a0 : (List UInt8)) : Nat → (Int) → Option (Sum (Unit) (keyboard_Key × Bool))
  | 0, _ => none
  | n + 1, s14 => (if s14 < 256 then ((if a0 ≠ ([] : List UInt8) then (keyboard_Name_m (⟨17, toB s14⟩ : keyboard_Key)).bind fun o22 => some (decide (o22 = a0)) else some false)).bind fun (s25 : Bool) => (if s25 = true then some (Sum.inr ((⟨17, toB s14⟩ : keyboard_Key), true)) else (keyboard_Named_l2 K a0 n) (w64 (s14 + 1))) else some (Sum.inl ()))
def keyboard_Named_m (K : Nat) (a0 : (List UInt8)) : Option (keyboard_Key × Bool) := (keyboard_Named_l1 K a0 K 2).bind (onS fun (s12 : Unit) => (keyboard_Named_l2 K a0 K 0).bind (onS fun (s28 : Unit) => some ((⟨0, 0⟩ : keyboard_Key), false)))
theorem keyboard_Named_c (K : Nat) (a0 : (List UInt8)) : Con Tryz.prog 12 #[vS a0] [.ro (kVar 0 83) [] (glob_0.map vS)] (keyboard_Named_m K a0) (fun (o : keyboard_Key × Bool) (x : Unit) => .tuple #[.agg #[.int .i64 o.1.f_Kind, vB o.1.f_Byte], .bool o.2]) (fun (o : keyboard_Key × Bool) (x : Unit) => []) := by
  unfold keyboard_Named_m
  refine con (args := [vS a0]) Tryz.func12 rfl 35 rfl (.c .n) rfl fun c hD => ?_
  refine cSeq ?_
  refine cRegion ?_
  refine lCh (cAlloc (cs := [.int .i64 0, vB 0]) zer_23 rfl) rfl rfl fun b1 => ?_
  refine lRd (dAssign (.c rfl)) rfl rfl ?_
  refine lNil ?_
  refine xCode ?_
  refine cSeq ?_
  refine cSeq ?_
  refine cRegion ?_
  refine lRd (dAssign (.c rfl)) rfl rfl ?_
  refine lNil ?_
  refine xCode ?_
  refine cLoopR (S := Int) (X := Unit) (S' := Unit) (X' := Unit) (keyboard_Named_l1 K a0) (fun (s : Int) (x : Unit) => [(4, .int .i64 s), (3, .bool false), (2, .pointer (some ⟨b1, 0, none⟩)), (0, vS a0)]) (fun (s : Int) (x : Unit) => [.blk b1 [.int .i64 0, vB 0] 23, .ro (kVar 0 83) [] (glob_0.map vS)]) (fun (s : Unit) (x : Unit) => [(3, .bool false), (2, .pointer (some ⟨b1, 0, none⟩)), (0, vS a0)]) (fun (s : Unit) (x : Unit) => [.blk b1 [.int .i64 0, vB 0] 23, .ro (kVar 0 83) [] (glob_0.map vS)]) K 2 () (.c .z (.c (.s .z) (.c (.s (.s .z)) (.c (.s (.s (.s .z))) .n)))) (.c .z (.c .z .nil)) (fun _ => rfl) (fun n4 I5 h6 s2 x3 => ?_) (fun s12 x13 => ?_)
  · rw [keyboard_Named_l1]
    refine cSeq ?_
    refine cSeq ?_
    refine cRegion ?_
    refine lRd (dMove (.t .z)) rfl rfl ?_
    refine lRd (dLt (.t .z) (.c rfl)) rfl rfl ?_
    refine lNil ?_
    refine xCode ?_
    refine cCond (.t .z) (fun h7 => ?_) (fun h7 => ?_)
    · refine cSkip ?_
      refine xCode ?_
      refine cSeq ?_
      refine cBlock ?_
      refine cSeq ?_
      refine cRegion ?_
      refine lRd (dMove (.t (.s (.s .z)))) rfl rfl ?_
      refine lRd (dBuild (cs := [.int .i64 s2, vB 0]) zer_23 rfl plc_23 (.c (.t .z) .n) rfl) rfl rfl ?_
      refine lCall fok_9 (.c (.t .z) .n) (keyboard_Name_c (⟨s2, 0⟩ : keyboard_Key)) (.r (.s .z) .n) rfl rfl fun o8 x9 h10 => ?_
      refine lRd (dMove (.t (.s (.s (.s (.s (.s (.s (.s (.s .z)))))))))) rfl rfl ?_
      refine lRd (dEqS (.t (.s .z)) (.t .z)) rfl rfl ?_
      refine lNil ?_
      refine xCode ?_
      refine cCond (.t .z) (fun h11 => ?_) (fun h11 => ?_)
      · refine cSeq ?_
        refine cRegion ?_
        refine lRd (dMove (.t (.s (.s (.s (.s (.s (.s (.s .z))))))))) rfl rfl ?_
        refine lRd (dBuild (cs := [.int .i64 s2, vB 0]) zer_23 rfl plc_23 (.c (.t .z) .n) rfl) rfl rfl ?_
        refine lChU (uStoreA (us := [.int .i64 s2, vB 0]) (cs' := [.int .i64 s2, vB 0]) .z siz_23 rfl (by intro u hu; simp only [List.mem_cons, List.not_mem_nil, or_false] at hu; rcases hu with rfl | rfl <;> first | rfl | assumption) rfl (by simp) (.t (.s (.s (.s (.s (.s (.s (.s (.s (.s (.s (.s .z)))))))))))) (.t .z)) ?_
        refine lRdK (dAssign (.c rfl)) (.k (.k (.k (.k (.k (.k (.k (.k (.k (.k (.d (Keep.refl _)))))))))))) rfl rfl ?_
        refine lNil ?_
        refine xCode ?_
        refine cRet ?_
        refine rInner ?_
        exact rDone (rs := [.cell 2 23, .tmp 3]) rfl (.a (.s (.s (.s (.s (.s (.s (.s (.s (.s (.s (.s .z))))))))))) .z agg_23 siz_23 (.t .z .n)) hD (.inl rfl) () rfl .nil
      · refine cSkip ?_
        refine xBlock ?_
        refine xCode ?_
        refine cRegion ?_
        refine lRd (dMove (.t (.s (.s (.s (.s (.s (.s (.s .z))))))))) rfl rfl ?_
        refine lRd (dAddI (.t .z) (.c rfl)) rfl rfl ?_
        refine lRdK (dAssign (.t .z)) (.k (.k (.k (.k (.k (.k (.k (.k (.k (.d (Keep.refl _))))))))))) rfl rfl ?_
        refine lNil ?_
        exact xRound h6 (w64 (s2 + 1)) () (.c .z (.c (.s (.s (.s (.s (.s (.s (.s (.s (.s (.s .z)))))))))) (.c (.s (.s (.s (.s (.s (.s (.s (.s (.s (.s (.s .z))))))))))) (.c (.s (.s (.s (.s (.s (.s (.s (.s (.s (.s (.s (.s .z)))))))))))) .n)))) (.c .z (.c .z .nil))
    · refine cExit ?_
      refine xOver ?_
      refine xOverF ?_
      exact xBreakR () () (.c (.s (.s (.s .z))) (.c (.s (.s (.s (.s .z)))) (.c (.s (.s (.s (.s (.s .z))))) .n))) (.c .z (.c .z .nil))
  · refine xCode ?_
    refine cSeq ?_
    refine cSeq ?_
    refine cRegion ?_
    refine lRd (dMove (.c rfl)) rfl rfl ?_
    refine lNil ?_
    refine xCode ?_
    refine cLoopR (S := Int) (X := Unit) (S' := Unit) (X' := Unit) (keyboard_Named_l2 K a0) (fun (s : Int) (x : Unit) => [(18, .int .i64 s), (3, .bool false), (2, .pointer (some ⟨b1, 0, none⟩)), (0, vS a0)]) (fun (s : Int) (x : Unit) => [.blk b1 [.int .i64 0, vB 0] 23, .ro (kVar 0 83) [] (glob_0.map vS)]) (fun (s : Unit) (x : Unit) => [(3, .bool false), (2, .pointer (some ⟨b1, 0, none⟩))]) (fun (s : Unit) (x : Unit) => [.blk b1 [.int .i64 0, vB 0] 23, .ro (kVar 0 83) [] (glob_0.map vS)]) K 0 () (.c .z (.c (.s .z) (.c (.s (.s .z)) (.c (.s (.s (.s .z))) .n)))) (.c .z (.c .z .nil)) (fun _ => rfl) (fun n16 I17 h18 s14 x15 => ?_) (fun s28 x29 => ?_)
    · rw [keyboard_Named_l2]
      refine cSeq ?_
      refine cRegion ?_
      refine lRd (dLt (.t .z) (.c rfl)) rfl rfl ?_
      refine lNil ?_
      refine xCode ?_
      refine cSeq ?_
      refine cCond (.t .z) (fun h19 => ?_) (fun h19 => ?_)
      · refine cSkip ?_
        refine xCode ?_
        refine cSeq ?_
        refine cBlock ?_
        refine cSeq ?_
        refine cRegion ?_
        refine lRd (dMove (.t (.s .z))) rfl rfl ?_
        refine lRd (dAssign (.t .z)) rfl rfl ?_
        refine lNil ?_
        refine xCode ?_
        refine cSeq ?_
        refine cRegion ?_
        refine lRd (dMove (.t .z)) rfl rfl ?_
        refine lRd (dConvToB som_3 und_5 (.t .z)) rfl rfl ?_
        refine lRd (dBuild (cs := [.int .i64 17, vB (toB s14)]) zer_23 rfl plc_23 (.c (.c rfl) (.c (.t .z) .n)) rfl) rfl rfl ?_
        refine lCh (cAlloc (cs := [.int .i64 0, vB 0]) zer_23 rfl) rfl rfl fun b20 => ?_
        refine lChU (uStoreA (us := [.int .i64 17, vB (toB s14)]) (cs' := [.int .i64 17, vB (toB s14)]) .z siz_23 rfl (by intro u hu; simp only [List.mem_cons, List.not_mem_nil, or_false] at hu; rcases hu with rfl | rfl <;> first | rfl | assumption) rfl (by simp) (.t .z) (.t (.s .z))) ?_
        refine lNil ?_
        refine xCode ?_
        refine cSeq ?_
        refine cJoin (S := Bool) (X := Unit) (fun (s : Bool) (x : Unit) => [(31, .bool s), (26, .bool (decide (a0 ≠ ([] : List UInt8)))), (25, .bool (decide (a0 ≠ ([] : List UInt8)))), (24, vS a0), (6, .pointer (some ⟨b20, 0, none⟩)), (23, .agg #[.int .i64 17, vB (toB s14)]), (22, vB (toB s14)), (21, .int .i64 s14), (5, .int .i64 s14), (20, .int .i64 s14), (19, .bool (decide (s14 < 256))), (18, .int .i64 s14), (3, .bool false), (2, .pointer (some ⟨b1, 0, none⟩)), (0, vS a0)]) (fun (s : Bool) (x : Unit) => [.blk b20 [.int .i64 17, vB (toB s14)] 23, .blk b1 [.int .i64 0, vB 0] 23, .ro (kVar 0 83) [] (glob_0.map vS)]) ?_ (fun s25 x26 => ?_)
        · refine cRegion ?_
          refine lRd (dMove (.t (.s (.s (.s (.s (.s (.s (.s (.s (.s (.s .z)))))))))))) rfl rfl ?_
          refine lRd (dNeS (.t .z) (.c (v' := vS ([] : List UInt8)) rfl)) rfl rfl ?_
          refine lRd (dMove (.t .z)) rfl rfl ?_
          refine lCase (fun h21 => ?_) (fun h21 => ?_)
          · refine lRdG rfl .z (decide_eq_true h21) (dLoadA (us := [.int .i64 17, vB (toB s14)]) .z agg_23 siz_23 rfl (.t (.s (.s (.s .z)))) rfl) rfl rfl ?_
            refine lCallG rfl (.s .z) (decide_eq_true h21) fok_9 (.c (.t .z) .n) (keyboard_Name_c (⟨17, toB s14⟩ : keyboard_Key)) (.r (.s (.s .z)) .n) rfl rfl fun o22 x23 h24 => ?_
            refine lRdG rfl (.s (.s .z)) (decide_eq_true h21) (dMove (.t (.s (.s (.s (.s (.s (.s (.s (.s (.s (.s (.s (.s (.s (.s (.s .z))))))))))))))))) rfl rfl ?_
            refine lRdG rfl (.s (.s (.s .z))) (decide_eq_true h21) (dEqS (.t (.s .z)) (.t .z)) rfl rfl ?_
            refine lRd (dPickT (.t (.s (.s (.s (.s .z))))) (decide_eq_true h21) (.t .z)) rfl rfl ?_
            refine lNil ?_
            exact xJoin (decide (o22 = a0)) () (.c .z (.c (.s (.s (.s (.s (.s .z))))) (.c (.s (.s (.s (.s (.s (.s .z)))))) (.c (.s (.s (.s (.s (.s (.s (.s .z))))))) (.c (.s (.s (.s (.s (.s (.s (.s (.s .z)))))))) (.c (.s (.s (.s (.s (.s (.s (.s (.s (.s .z))))))))) (.c (.s (.s (.s (.s (.s (.s (.s (.s (.s (.s .z)))))))))) (.c (.s (.s (.s (.s (.s (.s (.s (.s (.s (.s (.s .z))))))))))) (.c (.s (.s (.s (.s (.s (.s (.s (.s (.s (.s (.s (.s .z)))))))))))) (.c (.s (.s (.s (.s (.s (.s (.s (.s (.s (.s (.s (.s (.s .z))))))))))))) (.c (.s (.s (.s (.s (.s (.s (.s (.s (.s (.s (.s (.s (.s (.s .z)))))))))))))) (.c (.s (.s (.s (.s (.s (.s (.s (.s (.s (.s (.s (.s (.s (.s (.s .z))))))))))))))) (.c (.s (.s (.s (.s (.s (.s (.s (.s (.s (.s (.s (.s (.s (.s (.s (.s .z)))))))))))))))) (.c (.s (.s (.s (.s (.s (.s (.s (.s (.s (.s (.s (.s (.s (.s (.s (.s (.s .z))))))))))))))))) (.c (.s (.s (.s (.s (.s (.s (.s (.s (.s (.s (.s (.s (.s (.s (.s (.s (.s (.s .z)))))))))))))))))) .n))))))))))))))) (.c .z (.c .z (.c .z .nil)))
          · refine lPass rfl .z (nbT (decide_eq_false h21)) rfl ?_
            refine lPass rfl .z (nbT (decide_eq_false h21)) rfl ?_
            refine lPass rfl .z (nbT (decide_eq_false h21)) rfl ?_
            refine lPass rfl .z (nbT (decide_eq_false h21)) rfl ?_
            refine lRd (dPickF (.t .z) (decide_eq_false h21) (.c rfl)) rfl rfl ?_
            refine lNil ?_
            exact xJoin false () (.c .z (.c (.s .z) (.c (.s (.s .z)) (.c (.s (.s (.s .z))) (.c (.s (.s (.s (.s .z)))) (.c (.s (.s (.s (.s (.s .z))))) (.c (.s (.s (.s (.s (.s (.s .z)))))) (.c (.s (.s (.s (.s (.s (.s (.s .z))))))) (.c (.s (.s (.s (.s (.s (.s (.s (.s .z)))))))) (.c (.s (.s (.s (.s (.s (.s (.s (.s (.s .z))))))))) (.c (.s (.s (.s (.s (.s (.s (.s (.s (.s (.s .z)))))))))) (.c (.s (.s (.s (.s (.s (.s (.s (.s (.s (.s (.s .z))))))))))) (.c (.s (.s (.s (.s (.s (.s (.s (.s (.s (.s (.s (.s .z)))))))))))) (.c (.s (.s (.s (.s (.s (.s (.s (.s (.s (.s (.s (.s (.s .z))))))))))))) (.c (.s (.s (.s (.s (.s (.s (.s (.s (.s (.s (.s (.s (.s (.s .z)))))))))))))) .n))))))))))))))) (.c .z (.c .z (.c .z .nil)))
        · refine xCode ?_
          refine cCondB (.t .z) (fun h27 => ?_) (fun h27 => ?_)
          · refine cSeq ?_
            refine cRegion ?_
            refine lRd (dLoadA (us := [.int .i64 17, vB (toB s14)]) .z agg_23 siz_23 rfl (.t (.s (.s (.s (.s .z))))) rfl) rfl rfl ?_
            refine lChU (uStoreA (us := [.int .i64 17, vB (toB s14)]) (cs' := [.int .i64 17, vB (toB s14)]) (.s .z) siz_23 rfl (by intro u hu; simp only [List.mem_cons, List.not_mem_nil, or_false] at hu; rcases hu with rfl | rfl <;> first | rfl | assumption) rfl (by simp) (.t (.s (.s (.s (.s (.s (.s (.s (.s (.s (.s (.s (.s (.s (.s .z))))))))))))))) (.t .z)) ?_
            refine lRdK (dAssign (.c rfl)) (.k (.k (.k (.k (.k (.k (.k (.k (.k (.k (.k (.k (.k (.d (Keep.refl _))))))))))))))) rfl rfl ?_
            refine lNil ?_
            refine xCode ?_
            refine cRet ?_
            refine rInner ?_
            exact rDone (rs := [.cell 2 23, .tmp 3]) rfl (.a (.s (.s (.s (.s (.s (.s (.s (.s (.s (.s (.s (.s (.s (.s .z)))))))))))))) (.s .z) agg_23 siz_23 (.t .z .n)) hD (.inl rfl) () rfl .nil
          · refine cSkip ?_
            refine xBlock ?_
            refine xCode ?_
            refine cRegion ?_
            refine lRd (dAddI (.t (.s (.s (.s (.s (.s (.s (.s (.s (.s (.s (.s .z)))))))))))) (.c rfl)) rfl rfl ?_
            refine lRdK (dMove (.t .z)) (.k (.k (.k (.k (.k (.k (.k (.k (.k (.k (.k (.k (.d (Keep.refl _)))))))))))))) rfl rfl ?_
            refine lNil ?_
            exact xRound h18 (w64 (s14 + 1)) () (.c .z (.c (.s (.s (.s (.s (.s (.s (.s (.s (.s (.s (.s (.s (.s .z))))))))))))) (.c (.s (.s (.s (.s (.s (.s (.s (.s (.s (.s (.s (.s (.s (.s .z)))))))))))))) (.c (.s (.s (.s (.s (.s (.s (.s (.s (.s (.s (.s (.s (.s (.s (.s .z))))))))))))))) .n)))) (.c (.s .z) (.c (.s .z) .nil))
      · refine cExit ?_
        refine xOver ?_
        refine xOverF ?_
        exact xBreakR () () (.c (.s (.s .z)) (.c (.s (.s (.s .z))) .n)) (.c .z (.c .z .nil))
    · refine xCode ?_
      refine cSeq ?_
      refine cRegion ?_
      refine lRd (dBuild (cs := [.int .i64 0, vB 0]) zer_23 rfl plc_23 .n rfl) rfl rfl ?_
      refine lChU (uStoreA (us := [.int .i64 0, vB 0]) (cs' := [.int .i64 0, vB 0]) .z siz_23 rfl (by intro u hu; simp only [List.mem_cons, List.not_mem_nil, or_false] at hu; rcases hu with rfl | rfl <;> first | rfl | assumption) rfl (by simp) (.t (.s (.s .z))) (.t .z)) ?_
      refine lRdK (dAssign (.c rfl)) (.k (.d (Keep.refl _))) rfl rfl ?_
      refine lKeep (.k (.d (.k .n))) ?_
      refine lNil ?_
      refine xCode ?_
      refine cRet ?_
      exact rDone (rs := [.cell 2 23, .tmp 3]) rfl (.a (.s .z) .z agg_23 siz_23 (.t .z .n)) hD (.inl rfl) () rfl .nil

-- greenscreen/keyboard.Short
def keyboard_Short_m (a0 : UInt8) : Option (Bool) := (keyboard_plain_m a0).bind fun o1 => (if o1 ≠ ([] : List UInt8) then some (decide (a0 ≠ (125 : UInt8))) else some false)
theorem keyboard_Short_c (a0 : UInt8) : Con Tryz.prog 13 #[vB a0] [] (keyboard_Short_m a0) (fun (o : Bool) (x : Unit) => .bool o) (fun (o : Bool) (x : Unit) => []) := by
  unfold keyboard_Short_m
  refine con (args := [vB a0]) Tryz.func13 rfl 10 rfl (.c .n) rfl fun c hD => ?_
  refine cSeq ?_
  refine cRegion ?_
  refine lRd (dAssign (.c rfl)) rfl rfl ?_
  refine lNil ?_
  refine xCode ?_
  refine cSeq ?_
  refine cRegion ?_
  refine lRd (dMove (.t (.s .z))) rfl rfl ?_
  refine lCall fok_39 (.c (.t .z) .n) (keyboard_plain_c a0) .n rfl rfl fun o1 x2 h3 => ?_
  refine lRd (dNeS (.t .z) (.c (v' := vS ([] : List UInt8)) rfl)) rfl rfl ?_
  refine lRd (dMove (.t .z)) rfl rfl ?_
  refine lCase (fun h4 => ?_) (fun h4 => ?_)
  · refine lRdG rfl .z (decide_eq_true h4) (dMove (.t (.s (.s (.s (.s (.s .z))))))) rfl rfl ?_
    refine lRdG rfl (.s .z) (decide_eq_true h4) (dNeB (.t .z) (.c (v' := vB 125) rfl)) rfl rfl ?_
    refine lRd (dPickT (.t (.s (.s .z))) (decide_eq_true h4) (.t .z)) rfl rfl ?_
    refine lRdK (dAssign (.t .z)) (.k (.k (.k (.k (.k (.k (.k (.d (Keep.refl _))))))))) rfl rfl ?_
    refine lKeep (.k .n) ?_
    refine lNil ?_
    refine xCode ?_
    refine cRet ?_
    exact rDone (rs := [.tmp 2]) rfl (.t .z .n) hD (.inl rfl) () rfl .nil
  · refine lPass rfl .z (nbT (decide_eq_false h4)) rfl ?_
    refine lPass rfl .z (nbT (decide_eq_false h4)) rfl ?_
    refine lRd (dPickF (.t .z) (decide_eq_false h4) (.c rfl)) rfl rfl ?_
    refine lRdK (dAssign (.t .z)) (.k (.k (.k (.k (.k (.d (Keep.refl _))))))) rfl rfl ?_
    refine lKeep (.k .n) ?_
    refine lNil ?_
    refine xCode ?_
    refine cRet ?_
    exact rDone (rs := [.tmp 2]) rfl (.t .z .n) hD (.inl rfl) () rfl .nil

-- (*greenscreen/lock.Lock).turn
def lock_Lock_turn_m (a0 : lock_Lock) (a1 : Int) (a2 : Int) : Option (lock_Lock) := ((if a1 ≠ a0.f_state then some (w64 (a0.f_turns + 1)) else some a0.f_turns)).bind fun (s2 : Int) => some (⟨a1, a2, s2⟩ : lock_Lock)
theorem lock_Lock_turn_c (a0 : lock_Lock) (a1 : Int) (a2 : Int) (b0_0 : Nat) : Con Tryz.prog 47 #[.pointer (some ⟨b0_0, 0, none⟩), .int .i64 a1, .int .i64 a2] [.blk b0_0 [.int .i64 a0.f_state, .int .i64 a0.f_why, .int .i64 a0.f_turns] 95] (lock_Lock_turn_m a0 a1 a2) (fun (o : lock_Lock) (x : Unit) => .tuple #[]) (fun (o : lock_Lock) (x : Unit) => [.blk b0_0 [.int .i64 o.f_state, .int .i64 o.f_why, .int .i64 o.f_turns] 95]) := by
  unfold lock_Lock_turn_m
  refine con (args := [.pointer (some ⟨b0_0, 0, none⟩), .int .i64 a1, .int .i64 a2]) Tryz.func47 rfl 27 rfl (.c (.c (.c .n))) rfl fun c hD => ?_
  refine cSeq ?_
  refine cSeq ?_
  refine cRegion ?_
  refine lRd (dMove (.t (.s .z))) rfl rfl ?_
  refine lRd (dMove (.t (.s .z))) rfl rfl ?_
  refine lRd (dNil (.t .z)) rfl rfl ?_
  refine lRd (dFld fld_95_0 (by decide) (.t .z) rfl) rfl rfl ?_
  refine lRd (dLoad .z agg_3 (.t .z) rfl) rfl rfl ?_
  refine lRd (dNe (.t (.s (.s (.s (.s .z))))) (.t .z)) rfl rfl ?_
  refine lKeep (.k (.d (.d (.d (.d (.d (.k (.k (.k .n))))))))) ?_
  refine lNil ?_
  refine xCode ?_
  refine cJoin (S := Int) (X := Unit) (fun (s : Int) (x : Unit) => [(0, .pointer (some ⟨b0_0, 0, none⟩)), (1, .int .i64 a1), (2, .int .i64 a2)]) (fun (s : Int) (x : Unit) => [.blk b0_0 [.int .i64 a0.f_state, .int .i64 a0.f_why, .int .i64 s] 95]) ?_ (fun s2 x3 => ?_)
  · refine cCond (.t .z) (fun h1 => ?_) (fun h1 => ?_)
    · refine cRegion ?_
      refine lRd (dMove (.t (.s .z))) rfl rfl ?_
      refine lRd (dNil (.t .z)) rfl rfl ?_
      refine lRd (dFld fld_95_2 (by decide) (.t .z) rfl) rfl rfl ?_
      refine lRd (dLoad .z agg_3 (.t .z) rfl) rfl rfl ?_
      refine lRd (dAddI (.t .z) (.c rfl)) rfl rfl ?_
      refine lRd (dNil (.t (.s (.s (.s (.s .z)))))) rfl rfl ?_
      refine lRd (dFld fld_95_2 (by decide) (.t .z) rfl) rfl rfl ?_
      refine lChU (uStore .z siz_3 rfl (.s (.s .z)) (.t .z) (.t (.s (.s .z)))) ?_
      refine lKeep (.d (.d (.d (.d (.d (.d (.d (.d (.k (.k (.k .n))))))))))) ?_
      refine lNil ?_
      exact xJoin (w64 (a0.f_turns + 1)) () (.c .z (.c (.s .z) (.c (.s (.s .z)) .n))) (.c .z .nil)
    · refine cSkip ?_
      exact xJoin a0.f_turns () (.c (.s .z) (.c (.s (.s .z)) (.c (.s (.s (.s .z))) .n))) (.c .z .nil)
  · refine xCode ?_
    refine cRegion ?_
    refine lRd (dMove (.t .z)) rfl rfl ?_
    refine lRd (dMove (.t (.s .z))) rfl rfl ?_
    refine lRd (dMove (.t (.s (.s (.s .z))))) rfl rfl ?_
    refine lRd (dMove (.t (.s (.s (.s (.s (.s .z))))))) rfl rfl ?_
    refine lRd (dNil (.t (.s (.s (.s .z))))) rfl rfl ?_
    refine lRd (dFld fld_95_0 (by decide) (.t .z) rfl) rfl rfl ?_
    refine lChU (uStore .z siz_3 rfl .z (.t .z) (.t (.s (.s (.s .z))))) ?_
    refine lRd (dNil (.t (.s (.s (.s (.s .z)))))) rfl rfl ?_
    refine lRd (dFld fld_95_1 (by decide) (.t .z) rfl) rfl rfl ?_
    refine lChU (uStore .z siz_52 rfl (.s .z) (.t .z) (.t (.s (.s (.s (.s .z)))))) ?_
    refine lKeep .n ?_
    refine lNil ?_
    exact xDone (rs := []) rfl .n hD () rfl (.c .z .nil)

-- (*greenscreen/lock.Lock).Open
def lock_Lock_Open_m (a0 : lock_Lock) : Option (lock_Lock) := (lock_Lock_turn_m a0 1 0).bind fun o1 => some o1
theorem lock_Lock_Open_c (a0 : lock_Lock) (b0_0 : Nat) : Con Tryz.prog 21 #[.pointer (some ⟨b0_0, 0, none⟩)] [.blk b0_0 [.int .i64 a0.f_state, .int .i64 a0.f_why, .int .i64 a0.f_turns] 95] (lock_Lock_Open_m a0) (fun (o : lock_Lock) (x : Unit) => .tuple #[]) (fun (o : lock_Lock) (x : Unit) => [.blk b0_0 [.int .i64 o.f_state, .int .i64 o.f_why, .int .i64 o.f_turns] 95]) := by
  unfold lock_Lock_Open_m
  refine con (args := [.pointer (some ⟨b0_0, 0, none⟩)]) Tryz.func21 rfl 4 rfl (.c .n) rfl fun c hD => ?_
  refine cRegion ?_
  refine lRd (dMove (.t .z)) rfl rfl ?_
  refine lCallN fok_47 (.c (.t .z) (.c (.c rfl) (.c (.c rfl) .n))) (lock_Lock_turn_c a0 1 0 b0_0) (.c .z .n) rfl fun o1 x2 h3 => ?_
  refine lKeep .n ?_
  refine lNil ?_
  exact xDone (rs := []) rfl .n hD () rfl (.c .z .nil)

-- (*greenscreen/lock.Lock).Restore
def lock_Lock_Restore_m (a0 : lock_Lock) : Option (lock_Lock × Bool) := ((if a0.f_state ≠ 3 then some (decide (a0.f_state ≠ 2)) else some false)).bind fun (s2 : Bool) => (if s2 = true then some (a0, false) else (lock_Lock_Open_m a0).bind fun o5 => some (o5, true))
theorem lock_Lock_Restore_c (a0 : lock_Lock) (b0_0 : Nat) : Con Tryz.prog 43 #[.pointer (some ⟨b0_0, 0, none⟩)] [.blk b0_0 [.int .i64 a0.f_state, .int .i64 a0.f_why, .int .i64 a0.f_turns] 95] (lock_Lock_Restore_m a0) (fun (o : lock_Lock × Bool) (x : Unit) => .bool o.2) (fun (o : lock_Lock × Bool) (x : Unit) => [.blk b0_0 [.int .i64 o.1.f_state, .int .i64 o.1.f_why, .int .i64 o.1.f_turns] 95]) := by
  unfold lock_Lock_Restore_m
  refine con (args := [.pointer (some ⟨b0_0, 0, none⟩)]) Tryz.func43 rfl 17 rfl (.c .n) rfl fun c hD => ?_
  refine cSeq ?_
  refine cRegion ?_
  refine lRd (dAssign (.c rfl)) rfl rfl ?_
  refine lNil ?_
  refine xCode ?_
  refine cSeq ?_
  refine cSeq ?_
  refine cJoin (S := Bool) (X := Unit) (fun (s : Bool) (x : Unit) => [(14, .bool s), (2, .bool false), (0, .pointer (some ⟨b0_0, 0, none⟩))]) (fun (s : Bool) (x : Unit) => [.blk b0_0 [.int .i64 a0.f_state, .int .i64 a0.f_why, .int .i64 a0.f_turns] 95]) ?_ (fun s2 x3 => ?_)
  · refine cRegion ?_
    refine lRd (dMove (.t (.s .z))) rfl rfl ?_
    refine lRd (dNil (.t .z)) rfl rfl ?_
    refine lRd (dFld fld_95_0 (by decide) (.t .z) rfl) rfl rfl ?_
    refine lRd (dLoad .z agg_3 (.t .z) rfl) rfl rfl ?_
    refine lRd (dNe (.t .z) (.c rfl)) rfl rfl ?_
    refine lRd (dMove (.t .z)) rfl rfl ?_
    refine lCase (fun h1 => ?_) (fun h1 => ?_)
    · refine lRdG rfl .z (decide_eq_true h1) (dMove (.t (.s (.s (.s (.s (.s (.s (.s .z))))))))) rfl rfl ?_
      refine lRdG rfl (.s .z) (decide_eq_true h1) (dNil (.t .z)) rfl rfl ?_
      refine lRdG rfl (.s (.s .z)) (decide_eq_true h1) (dFld fld_95_0 (by decide) (.t .z) rfl) rfl rfl ?_
      refine lRdG rfl (.s (.s (.s .z))) (decide_eq_true h1) (dLoad .z agg_3 (.t .z) rfl) rfl rfl ?_
      refine lRdG rfl (.s (.s (.s (.s .z)))) (decide_eq_true h1) (dNe (.t .z) (.c rfl)) rfl rfl ?_
      refine lRd (dPickT (.t (.s (.s (.s (.s (.s .z)))))) (decide_eq_true h1) (.t .z)) rfl rfl ?_
      refine lKeep (.k (.d (.d (.d (.d (.d (.d (.d (.d (.d (.d (.d (.k (.k .n)))))))))))))) ?_
      refine lNil ?_
      exact xJoin (decide (a0.f_state ≠ 2)) () (.c .z (.c (.s .z) (.c (.s (.s .z)) .n))) (.c .z .nil)
    · refine lPass rfl .z (nbT (decide_eq_false h1)) rfl ?_
      refine lPass rfl .z (nbT (decide_eq_false h1)) rfl ?_
      refine lPass rfl .z (nbT (decide_eq_false h1)) rfl ?_
      refine lPass rfl .z (nbT (decide_eq_false h1)) rfl ?_
      refine lPass rfl .z (nbT (decide_eq_false h1)) rfl ?_
      refine lRd (dPickF (.t .z) (decide_eq_false h1) (.c rfl)) rfl rfl ?_
      refine lKeep (.k (.d (.d (.d (.d (.d (.d (.k (.k .n))))))))) ?_
      refine lNil ?_
      exact xJoin false () (.c .z (.c (.s .z) (.c (.s (.s .z)) .n))) (.c .z .nil)
  · refine xCode ?_
    refine cCondB (.t .z) (fun h4 => ?_) (fun h4 => ?_)
    · refine cSeq ?_
      refine cRegion ?_
      refine lRdK (dAssign (.c rfl)) (.k (.d (Keep.refl _))) rfl rfl ?_
      refine lKeep (.k (.d (.k .n))) ?_
      refine lNil ?_
      refine xCode ?_
      refine cRet ?_
      exact rDone (rs := [.tmp 2]) rfl (.t .z .n) hD (.inl rfl) () rfl (.c .z .nil)
    · refine cSkip ?_
      refine xCode ?_
      refine cSeq ?_
      refine cRegion ?_
      refine lRd (dMove (.t (.s (.s .z)))) rfl rfl ?_
      refine lCallN fok_21 (.c (.t .z) .n) (lock_Lock_Open_c a0 b0_0) (.c .z .n) rfl fun o5 x6 h7 => ?_
      refine lKeep (.d (.d (.k .n))) ?_
      refine lNil ?_
      refine xCode ?_
      refine cSeq ?_
      refine cRegion ?_
      refine lRdK (dAssign (.c rfl)) (.d (Keep.refl _)) rfl rfl ?_
      refine lNil ?_
      refine xCode ?_
      refine cRet ?_
      exact rDone (rs := [.tmp 2]) rfl (.t .z .n) hD (.inl rfl) () rfl (.c .z .nil)

-- (*greenscreen/lock.Lock).turn
def lock_Lock_turn_v0_m (a0 : keyboard_Keyboard) (a1 : Int) (a2 : Int) : Option (keyboard_Keyboard) := ((if a1 ≠ a0.f_l.f_state then some (w64 (a0.f_l.f_turns + 1)) else some a0.f_l.f_turns)).bind fun (s2 : Int) => some (⟨a0.f_s, (⟨a1, a2, s2⟩ : lock_Lock), a0.f_insert, a0.f_last⟩ : keyboard_Keyboard)
theorem lock_Lock_turn_v0_c (a0 : keyboard_Keyboard) (a1 : Int) (a2 : Int) (b0_0 : Nat) (b0_1 : Nat) (b0_2 : Nat) (v0_3 : Value) : Con Tryz.prog 47 #[.pointer (some ⟨b0_0, 1, none⟩), .int .i64 a1, .int .i64 a2] [.blk b0_0 [.pointer (some ⟨b0_1, 0, none⟩), .int .i64 a0.f_l.f_state, .int .i64 a0.f_l.f_why, .int .i64 a0.f_l.f_turns, .bool a0.f_insert, vB a0.f_last] 97, .blk b0_1 [.int .i64 a0.f_s.f_sizes_0.f_Rows, .int .i64 a0.f_s.f_sizes_0.f_Cols, .int .i64 a0.f_s.f_sizes_1.f_Rows, .int .i64 a0.f_s.f_sizes_1.f_Cols, .int .i64 a0.f_s.f_which, .pointer (some ⟨b0_2, 0, none⟩)] 124, .blk b0_2 [.int .i64 a0.f_s.f_p.f_size.f_Rows, .int .i64 a0.f_s.f_p.f_size.f_Cols, v0_3, .int .i64 a0.f_s.f_p.f_cursor] 126, .own v0_3 80 k_api_Cell a0.f_s.f_p.f_cells] (lock_Lock_turn_v0_m a0 a1 a2) (fun (o : keyboard_Keyboard) (x : Unit) => .tuple #[]) (fun (o : keyboard_Keyboard) (x : Unit) => [.blk b0_0 [.pointer (some ⟨b0_1, 0, none⟩), .int .i64 o.f_l.f_state, .int .i64 o.f_l.f_why, .int .i64 o.f_l.f_turns, .bool o.f_insert, vB o.f_last] 97, .blk b0_1 [.int .i64 o.f_s.f_sizes_0.f_Rows, .int .i64 o.f_s.f_sizes_0.f_Cols, .int .i64 o.f_s.f_sizes_1.f_Rows, .int .i64 o.f_s.f_sizes_1.f_Cols, .int .i64 o.f_s.f_which, .pointer (some ⟨b0_2, 0, none⟩)] 124, .blk b0_2 [.int .i64 o.f_s.f_p.f_size.f_Rows, .int .i64 o.f_s.f_p.f_size.f_Cols, v0_3, .int .i64 o.f_s.f_p.f_cursor] 126, .own v0_3 80 k_api_Cell o.f_s.f_p.f_cells]) := by
  unfold lock_Lock_turn_v0_m
  refine con (args := [.pointer (some ⟨b0_0, 1, none⟩), .int .i64 a1, .int .i64 a2]) Tryz.func47 rfl 27 rfl (.c (.c (.c .n))) rfl fun c hD => ?_
  refine cSeq ?_
  refine cSeq ?_
  refine cRegion ?_
  refine lRd (dMove (.t (.s .z))) rfl rfl ?_
  refine lRd (dMove (.t (.s .z))) rfl rfl ?_
  refine lRd (dNil (.t .z)) rfl rfl ?_
  refine lRd (dFld fld_95_0 (by decide) (.t .z) rfl) rfl rfl ?_
  refine lRd (dLoad .z agg_3 (.t .z) rfl) rfl rfl ?_
  refine lRd (dNe (.t (.s (.s (.s (.s .z))))) (.t .z)) rfl rfl ?_
  refine lKeep (.k (.d (.d (.d (.d (.d (.k (.k (.k .n))))))))) ?_
  refine lNil ?_
  refine xCode ?_
  refine cJoin (S := Int) (X := Unit) (fun (s : Int) (x : Unit) => [(0, .pointer (some ⟨b0_0, 1, none⟩)), (1, .int .i64 a1), (2, .int .i64 a2)]) (fun (s : Int) (x : Unit) => [.blk b0_0 [.pointer (some ⟨b0_1, 0, none⟩), .int .i64 a0.f_l.f_state, .int .i64 a0.f_l.f_why, .int .i64 s, .bool a0.f_insert, vB a0.f_last] 97, .blk b0_1 [.int .i64 a0.f_s.f_sizes_0.f_Rows, .int .i64 a0.f_s.f_sizes_0.f_Cols, .int .i64 a0.f_s.f_sizes_1.f_Rows, .int .i64 a0.f_s.f_sizes_1.f_Cols, .int .i64 a0.f_s.f_which, .pointer (some ⟨b0_2, 0, none⟩)] 124, .blk b0_2 [.int .i64 a0.f_s.f_p.f_size.f_Rows, .int .i64 a0.f_s.f_p.f_size.f_Cols, v0_3, .int .i64 a0.f_s.f_p.f_cursor] 126, .own v0_3 80 k_api_Cell a0.f_s.f_p.f_cells]) ?_ (fun s2 x3 => ?_)
  · refine cCond (.t .z) (fun h1 => ?_) (fun h1 => ?_)
    · refine cRegion ?_
      refine lRd (dMove (.t (.s .z))) rfl rfl ?_
      refine lRd (dNil (.t .z)) rfl rfl ?_
      refine lRd (dFld fld_95_2 (by decide) (.t .z) rfl) rfl rfl ?_
      refine lRd (dLoad .z agg_3 (.t .z) rfl) rfl rfl ?_
      refine lRd (dAddI (.t .z) (.c rfl)) rfl rfl ?_
      refine lRd (dNil (.t (.s (.s (.s (.s .z)))))) rfl rfl ?_
      refine lRd (dFld fld_95_2 (by decide) (.t .z) rfl) rfl rfl ?_
      refine lChU (uStore .z siz_3 rfl (.s (.s (.s .z))) (.t .z) (.t (.s (.s .z)))) ?_
      refine lKeep (.d (.d (.d (.d (.d (.d (.d (.d (.k (.k (.k .n))))))))))) ?_
      refine lNil ?_
      exact xJoin (w64 (a0.f_l.f_turns + 1)) () (.c .z (.c (.s .z) (.c (.s (.s .z)) .n))) (.c .z (.c .z (.c .z (.c .z .nil))))
    · refine cSkip ?_
      exact xJoin a0.f_l.f_turns () (.c (.s .z) (.c (.s (.s .z)) (.c (.s (.s (.s .z))) .n))) (.c .z (.c .z (.c .z (.c .z .nil))))
  · refine xCode ?_
    refine cRegion ?_
    refine lRd (dMove (.t .z)) rfl rfl ?_
    refine lRd (dMove (.t (.s .z))) rfl rfl ?_
    refine lRd (dMove (.t (.s (.s (.s .z))))) rfl rfl ?_
    refine lRd (dMove (.t (.s (.s (.s (.s (.s .z))))))) rfl rfl ?_
    refine lRd (dNil (.t (.s (.s (.s .z))))) rfl rfl ?_
    refine lRd (dFld fld_95_0 (by decide) (.t .z) rfl) rfl rfl ?_
    refine lChU (uStore .z siz_3 rfl (.s .z) (.t .z) (.t (.s (.s (.s .z))))) ?_
    refine lRd (dNil (.t (.s (.s (.s (.s .z)))))) rfl rfl ?_
    refine lRd (dFld fld_95_1 (by decide) (.t .z) rfl) rfl rfl ?_
    refine lChU (uStore .z siz_52 rfl (.s (.s .z)) (.t .z) (.t (.s (.s (.s (.s .z)))))) ?_
    refine lKeep .n ?_
    refine lNil ?_
    exact xDone (rs := []) rfl .n hD () rfl (.c .z (.c .z (.c .z (.c .z .nil))))

-- (*greenscreen/lock.Lock).Open
def lock_Lock_Open_v0_m (a0 : keyboard_Keyboard) : Option (keyboard_Keyboard) := (lock_Lock_turn_v0_m a0 1 0).bind fun o1 => some o1
theorem lock_Lock_Open_v0_c (a0 : keyboard_Keyboard) (b0_0 : Nat) (b0_1 : Nat) (b0_2 : Nat) (v0_3 : Value) : Con Tryz.prog 21 #[.pointer (some ⟨b0_0, 1, none⟩)] [.blk b0_0 [.pointer (some ⟨b0_1, 0, none⟩), .int .i64 a0.f_l.f_state, .int .i64 a0.f_l.f_why, .int .i64 a0.f_l.f_turns, .bool a0.f_insert, vB a0.f_last] 97, .blk b0_1 [.int .i64 a0.f_s.f_sizes_0.f_Rows, .int .i64 a0.f_s.f_sizes_0.f_Cols, .int .i64 a0.f_s.f_sizes_1.f_Rows, .int .i64 a0.f_s.f_sizes_1.f_Cols, .int .i64 a0.f_s.f_which, .pointer (some ⟨b0_2, 0, none⟩)] 124, .blk b0_2 [.int .i64 a0.f_s.f_p.f_size.f_Rows, .int .i64 a0.f_s.f_p.f_size.f_Cols, v0_3, .int .i64 a0.f_s.f_p.f_cursor] 126, .own v0_3 80 k_api_Cell a0.f_s.f_p.f_cells] (lock_Lock_Open_v0_m a0) (fun (o : keyboard_Keyboard) (x : Unit) => .tuple #[]) (fun (o : keyboard_Keyboard) (x : Unit) => [.blk b0_0 [.pointer (some ⟨b0_1, 0, none⟩), .int .i64 o.f_l.f_state, .int .i64 o.f_l.f_why, .int .i64 o.f_l.f_turns, .bool o.f_insert, vB o.f_last] 97, .blk b0_1 [.int .i64 o.f_s.f_sizes_0.f_Rows, .int .i64 o.f_s.f_sizes_0.f_Cols, .int .i64 o.f_s.f_sizes_1.f_Rows, .int .i64 o.f_s.f_sizes_1.f_Cols, .int .i64 o.f_s.f_which, .pointer (some ⟨b0_2, 0, none⟩)] 124, .blk b0_2 [.int .i64 o.f_s.f_p.f_size.f_Rows, .int .i64 o.f_s.f_p.f_size.f_Cols, v0_3, .int .i64 o.f_s.f_p.f_cursor] 126, .own v0_3 80 k_api_Cell o.f_s.f_p.f_cells]) := by
  unfold lock_Lock_Open_v0_m
  refine con (args := [.pointer (some ⟨b0_0, 1, none⟩)]) Tryz.func21 rfl 4 rfl (.c .n) rfl fun c hD => ?_
  refine cRegion ?_
  refine lRd (dMove (.t .z)) rfl rfl ?_
  refine lCallN fok_47 (.c (.t .z) (.c (.c rfl) (.c (.c rfl) .n))) (lock_Lock_turn_v0_c a0 1 0 b0_0 b0_1 b0_2 v0_3) (.c .z (.c .z (.c .z (.c .z .n)))) rfl fun o1 x2 h3 => ?_
  refine lKeep .n ?_
  refine lNil ?_
  exact xDone (rs := []) rfl .n hD () rfl (.c .z (.c .z (.c .z (.c .z .nil))))

-- (*greenscreen/lock.Lock).Restore
def lock_Lock_Restore_v0_m (a0 : keyboard_Keyboard) : Option (keyboard_Keyboard × Bool) := ((if a0.f_l.f_state ≠ 3 then some (decide (a0.f_l.f_state ≠ 2)) else some false)).bind fun (s2 : Bool) => (if s2 = true then some (a0, false) else (lock_Lock_Open_v0_m a0).bind fun o5 => some (o5, true))
theorem lock_Lock_Restore_v0_c (a0 : keyboard_Keyboard) (b0_0 : Nat) (b0_1 : Nat) (b0_2 : Nat) (v0_3 : Value) : Con Tryz.prog 43 #[.pointer (some ⟨b0_0, 1, none⟩)] [.blk b0_0 [.pointer (some ⟨b0_1, 0, none⟩), .int .i64 a0.f_l.f_state, .int .i64 a0.f_l.f_why, .int .i64 a0.f_l.f_turns, .bool a0.f_insert, vB a0.f_last] 97, .blk b0_1 [.int .i64 a0.f_s.f_sizes_0.f_Rows, .int .i64 a0.f_s.f_sizes_0.f_Cols, .int .i64 a0.f_s.f_sizes_1.f_Rows, .int .i64 a0.f_s.f_sizes_1.f_Cols, .int .i64 a0.f_s.f_which, .pointer (some ⟨b0_2, 0, none⟩)] 124, .blk b0_2 [.int .i64 a0.f_s.f_p.f_size.f_Rows, .int .i64 a0.f_s.f_p.f_size.f_Cols, v0_3, .int .i64 a0.f_s.f_p.f_cursor] 126, .own v0_3 80 k_api_Cell a0.f_s.f_p.f_cells] (lock_Lock_Restore_v0_m a0) (fun (o : keyboard_Keyboard × Bool) (x : Unit) => .bool o.2) (fun (o : keyboard_Keyboard × Bool) (x : Unit) => [.blk b0_0 [.pointer (some ⟨b0_1, 0, none⟩), .int .i64 o.1.f_l.f_state, .int .i64 o.1.f_l.f_why, .int .i64 o.1.f_l.f_turns, .bool o.1.f_insert, vB o.1.f_last] 97, .blk b0_1 [.int .i64 o.1.f_s.f_sizes_0.f_Rows, .int .i64 o.1.f_s.f_sizes_0.f_Cols, .int .i64 o.1.f_s.f_sizes_1.f_Rows, .int .i64 o.1.f_s.f_sizes_1.f_Cols, .int .i64 o.1.f_s.f_which, .pointer (some ⟨b0_2, 0, none⟩)] 124, .blk b0_2 [.int .i64 o.1.f_s.f_p.f_size.f_Rows, .int .i64 o.1.f_s.f_p.f_size.f_Cols, v0_3, .int .i64 o.1.f_s.f_p.f_cursor] 126, .own v0_3 80 k_api_Cell o.1.f_s.f_p.f_cells]) := by
  unfold lock_Lock_Restore_v0_m
  refine con (args := [.pointer (some ⟨b0_0, 1, none⟩)]) Tryz.func43 rfl 17 rfl (.c .n) rfl fun c hD => ?_
  refine cSeq ?_
  refine cRegion ?_
  refine lRd (dAssign (.c rfl)) rfl rfl ?_
  refine lNil ?_
  refine xCode ?_
  refine cSeq ?_
  refine cSeq ?_
  refine cJoin (S := Bool) (X := Unit) (fun (s : Bool) (x : Unit) => [(14, .bool s), (2, .bool false), (0, .pointer (some ⟨b0_0, 1, none⟩))]) (fun (s : Bool) (x : Unit) => [.blk b0_0 [.pointer (some ⟨b0_1, 0, none⟩), .int .i64 a0.f_l.f_state, .int .i64 a0.f_l.f_why, .int .i64 a0.f_l.f_turns, .bool a0.f_insert, vB a0.f_last] 97, .blk b0_1 [.int .i64 a0.f_s.f_sizes_0.f_Rows, .int .i64 a0.f_s.f_sizes_0.f_Cols, .int .i64 a0.f_s.f_sizes_1.f_Rows, .int .i64 a0.f_s.f_sizes_1.f_Cols, .int .i64 a0.f_s.f_which, .pointer (some ⟨b0_2, 0, none⟩)] 124, .blk b0_2 [.int .i64 a0.f_s.f_p.f_size.f_Rows, .int .i64 a0.f_s.f_p.f_size.f_Cols, v0_3, .int .i64 a0.f_s.f_p.f_cursor] 126, .own v0_3 80 k_api_Cell a0.f_s.f_p.f_cells]) ?_ (fun s2 x3 => ?_)
  · refine cRegion ?_
    refine lRd (dMove (.t (.s .z))) rfl rfl ?_
    refine lRd (dNil (.t .z)) rfl rfl ?_
    refine lRd (dFld fld_95_0 (by decide) (.t .z) rfl) rfl rfl ?_
    refine lRd (dLoad .z agg_3 (.t .z) rfl) rfl rfl ?_
    refine lRd (dNe (.t .z) (.c rfl)) rfl rfl ?_
    refine lRd (dMove (.t .z)) rfl rfl ?_
    refine lCase (fun h1 => ?_) (fun h1 => ?_)
    · refine lRdG rfl .z (decide_eq_true h1) (dMove (.t (.s (.s (.s (.s (.s (.s (.s .z))))))))) rfl rfl ?_
      refine lRdG rfl (.s .z) (decide_eq_true h1) (dNil (.t .z)) rfl rfl ?_
      refine lRdG rfl (.s (.s .z)) (decide_eq_true h1) (dFld fld_95_0 (by decide) (.t .z) rfl) rfl rfl ?_
      refine lRdG rfl (.s (.s (.s .z))) (decide_eq_true h1) (dLoad .z agg_3 (.t .z) rfl) rfl rfl ?_
      refine lRdG rfl (.s (.s (.s (.s .z)))) (decide_eq_true h1) (dNe (.t .z) (.c rfl)) rfl rfl ?_
      refine lRd (dPickT (.t (.s (.s (.s (.s (.s .z)))))) (decide_eq_true h1) (.t .z)) rfl rfl ?_
      refine lKeep (.k (.d (.d (.d (.d (.d (.d (.d (.d (.d (.d (.d (.k (.k .n)))))))))))))) ?_
      refine lNil ?_
      exact xJoin (decide (a0.f_l.f_state ≠ 2)) () (.c .z (.c (.s .z) (.c (.s (.s .z)) .n))) (.c .z (.c .z (.c .z (.c .z .nil))))
    · refine lPass rfl .z (nbT (decide_eq_false h1)) rfl ?_
      refine lPass rfl .z (nbT (decide_eq_false h1)) rfl ?_
      refine lPass rfl .z (nbT (decide_eq_false h1)) rfl ?_
      refine lPass rfl .z (nbT (decide_eq_false h1)) rfl ?_
      refine lPass rfl .z (nbT (decide_eq_false h1)) rfl ?_
      refine lRd (dPickF (.t .z) (decide_eq_false h1) (.c rfl)) rfl rfl ?_
      refine lKeep (.k (.d (.d (.d (.d (.d (.d (.k (.k .n))))))))) ?_
      refine lNil ?_
      exact xJoin false () (.c .z (.c (.s .z) (.c (.s (.s .z)) .n))) (.c .z (.c .z (.c .z (.c .z .nil))))
  · refine xCode ?_
    refine cCondB (.t .z) (fun h4 => ?_) (fun h4 => ?_)
    · refine cSeq ?_
      refine cRegion ?_
      refine lRdK (dAssign (.c rfl)) (.k (.d (Keep.refl _))) rfl rfl ?_
      refine lKeep (.k (.d (.k .n))) ?_
      refine lNil ?_
      refine xCode ?_
      refine cRet ?_
      exact rDone (rs := [.tmp 2]) rfl (.t .z .n) hD (.inl rfl) () rfl (.c .z (.c .z (.c .z (.c .z .nil))))
    · refine cSkip ?_
      refine xCode ?_
      refine cSeq ?_
      refine cRegion ?_
      refine lRd (dMove (.t (.s (.s .z)))) rfl rfl ?_
      refine lCallN fok_21 (.c (.t .z) .n) (lock_Lock_Open_v0_c a0 b0_0 b0_1 b0_2 v0_3) (.c .z (.c .z (.c .z (.c .z .n)))) rfl fun o5 x6 h7 => ?_
      refine lKeep (.d (.d (.k .n))) ?_
      refine lNil ?_
      refine xCode ?_
      refine cSeq ?_
      refine cRegion ?_
      refine lRdK (dAssign (.c rfl)) (.d (Keep.refl _)) rfl rfl ?_
      refine lNil ?_
      refine xCode ?_
      refine cRet ?_
      exact rDone (rs := [.tmp 2]) rfl (.t .z .n) hD (.inl rfl) () rfl (.c .z (.c .z (.c .z (.c .z .nil))))

-- (*greenscreen/keyboard.Keyboard).Host
def keyboard_Keyboard_Host_m (a0 : keyboard_Keyboard) (a1 : screen_Result) : Option (keyboard_Keyboard) := (if a1.f_Restore = true then (lock_Lock_Restore_v0_m a0).bind fun o3 => some (⟨o3.1.f_s, o3.1.f_l, false, (96 : UInt8)⟩ : keyboard_Keyboard) else some a0)
theorem keyboard_Keyboard_Host_c (a0 : keyboard_Keyboard) (a1 : screen_Result) (b0_0 : Nat) (b0_1 : Nat) (b0_2 : Nat) (v0_3 : Value) : Con Tryz.prog 17 #[.pointer (some ⟨b0_0, 0, none⟩), .agg #[vB a1.f_Reply, .bool a1.f_Restore, .bool a1.f_Alarm, .int .i64 a1.f_Err]] [.blk b0_0 [.pointer (some ⟨b0_1, 0, none⟩), .int .i64 a0.f_l.f_state, .int .i64 a0.f_l.f_why, .int .i64 a0.f_l.f_turns, .bool a0.f_insert, vB a0.f_last] 97, .blk b0_1 [.int .i64 a0.f_s.f_sizes_0.f_Rows, .int .i64 a0.f_s.f_sizes_0.f_Cols, .int .i64 a0.f_s.f_sizes_1.f_Rows, .int .i64 a0.f_s.f_sizes_1.f_Cols, .int .i64 a0.f_s.f_which, .pointer (some ⟨b0_2, 0, none⟩)] 124, .blk b0_2 [.int .i64 a0.f_s.f_p.f_size.f_Rows, .int .i64 a0.f_s.f_p.f_size.f_Cols, v0_3, .int .i64 a0.f_s.f_p.f_cursor] 126, .own v0_3 80 k_api_Cell a0.f_s.f_p.f_cells] (keyboard_Keyboard_Host_m a0 a1) (fun (o : keyboard_Keyboard) (x : Unit) => .tuple #[]) (fun (o : keyboard_Keyboard) (x : Unit) => [.blk b0_0 [.pointer (some ⟨b0_1, 0, none⟩), .int .i64 o.f_l.f_state, .int .i64 o.f_l.f_why, .int .i64 o.f_l.f_turns, .bool o.f_insert, vB o.f_last] 97, .blk b0_1 [.int .i64 o.f_s.f_sizes_0.f_Rows, .int .i64 o.f_s.f_sizes_0.f_Cols, .int .i64 o.f_s.f_sizes_1.f_Rows, .int .i64 o.f_s.f_sizes_1.f_Cols, .int .i64 o.f_s.f_which, .pointer (some ⟨b0_2, 0, none⟩)] 124, .blk b0_2 [.int .i64 o.f_s.f_p.f_size.f_Rows, .int .i64 o.f_s.f_p.f_size.f_Cols, v0_3, .int .i64 o.f_s.f_p.f_cursor] 126, .own v0_3 80 k_api_Cell o.f_s.f_p.f_cells]) := by
  unfold keyboard_Keyboard_Host_m
  refine con (args := [.pointer (some ⟨b0_0, 0, none⟩), .agg #[vB a1.f_Reply, .bool a1.f_Restore, .bool a1.f_Alarm, .int .i64 a1.f_Err]]) Tryz.func17 rfl 16 rfl (.c (.c .n)) rfl fun c hD => ?_
  refine cSeq ?_
  refine cRegion ?_
  refine lCh (cBox (cs := [vB a1.f_Reply, .bool a1.f_Restore, .bool a1.f_Alarm, .int .i64 a1.f_Err]) (.t (.s .z)) rfl) rfl rfl fun b1 => ?_
  refine lKeep (.k (.k .n)) ?_
  refine lNil ?_
  refine xCode ?_
  refine cSeq ?_
  refine cRegion ?_
  refine lRd (dFld fld_54_1 (by decide) (.t .z) rfl) rfl rfl ?_
  refine lRd (dLoad .z agg_4 (.t .z) rfl) rfl rfl ?_
  refine lKeep (.k (.d (.d (.k .n)))) ?_
  refine lNil ?_
  refine xCode ?_
  refine cCondB (.t .z) (fun h2 => ?_) (fun h2 => ?_)
  · refine cSeq ?_
    refine cRegion ?_
    refine lRd (dMove (.t (.s .z))) rfl rfl ?_
    refine lRd (dNil (.t .z)) rfl rfl ?_
    refine lRd (dFld fld_97_1 (by decide) (.t .z) rfl) rfl rfl ?_
    refine lCallN fok_43 (.c (.t .z) .n) (lock_Lock_Restore_v0_c a0 b0_0 b0_1 b0_2 v0_3) (.c (.s .z) (.c (.s .z) (.c (.s .z) (.c (.s .z) .n)))) rfl fun o3 x4 h5 => ?_
    refine lKeep (.d (.d (.d (.d (.k .n))))) ?_
    refine lNil ?_
    refine xCode ?_
    refine cRegion ?_
    refine lRd (dMove (.t .z)) rfl rfl ?_
    refine lRd (dMove (.t (.s .z))) rfl rfl ?_
    refine lRd (dNil (.t (.s .z))) rfl rfl ?_
    refine lRd (dFld fld_97_2 (by decide) (.t .z) rfl) rfl rfl ?_
    refine lChU (uStore .z siz_4 rfl (.s (.s (.s (.s .z)))) (.t .z) (.c rfl)) ?_
    refine lRd (dNil (.t (.s (.s .z)))) rfl rfl ?_
    refine lRd (dFld fld_97_3 (by decide) (.t .z) rfl) rfl rfl ?_
    refine lChU (uStore .z siz_5 rfl (.s (.s (.s (.s (.s .z))))) (.t .z) (.c (v' := vB 96) rfl)) ?_
    refine lKeep .n ?_
    refine lNil ?_
    exact xDone (rs := []) rfl .n hD () rfl (.c .z (.c .z (.c .z (.c .z .nil))))
  · refine cSkip ?_
    exact xDone (rs := []) rfl .n hD () rfl (.c (.s .z) (.c (.s .z) (.c (.s .z) (.c (.s .z) .nil))))

-- (*greenscreen/keyboard.Keyboard).Lock
def keyboard_Keyboard_Lock_m (a0 : keyboard_Keyboard) : Option (Unit) := some ()
theorem keyboard_Keyboard_Lock_c (a0 : keyboard_Keyboard) (b0_0 : Nat) (b0_1 : Nat) (b0_2 : Nat) (v0_3 : Value) : Con Tryz.prog 20 #[.pointer (some ⟨b0_0, 0, none⟩)] [.blk b0_0 [.pointer (some ⟨b0_1, 0, none⟩), .int .i64 a0.f_l.f_state, .int .i64 a0.f_l.f_why, .int .i64 a0.f_l.f_turns, .bool a0.f_insert, vB a0.f_last] 97, .blk b0_1 [.int .i64 a0.f_s.f_sizes_0.f_Rows, .int .i64 a0.f_s.f_sizes_0.f_Cols, .int .i64 a0.f_s.f_sizes_1.f_Rows, .int .i64 a0.f_s.f_sizes_1.f_Cols, .int .i64 a0.f_s.f_which, .pointer (some ⟨b0_2, 0, none⟩)] 124, .blk b0_2 [.int .i64 a0.f_s.f_p.f_size.f_Rows, .int .i64 a0.f_s.f_p.f_size.f_Cols, v0_3, .int .i64 a0.f_s.f_p.f_cursor] 126, .own v0_3 80 k_api_Cell a0.f_s.f_p.f_cells] (keyboard_Keyboard_Lock_m a0) (fun (o : Unit) (x : Unit) => .pointer (some ⟨b0_0, 1, none⟩)) (fun (o : Unit) (x : Unit) => [.blk b0_0 [.pointer (some ⟨b0_1, 0, none⟩), .int .i64 a0.f_l.f_state, .int .i64 a0.f_l.f_why, .int .i64 a0.f_l.f_turns, .bool a0.f_insert, vB a0.f_last] 97, .blk b0_1 [.int .i64 a0.f_s.f_sizes_0.f_Rows, .int .i64 a0.f_s.f_sizes_0.f_Cols, .int .i64 a0.f_s.f_sizes_1.f_Rows, .int .i64 a0.f_s.f_sizes_1.f_Cols, .int .i64 a0.f_s.f_which, .pointer (some ⟨b0_2, 0, none⟩)] 124, .blk b0_2 [.int .i64 a0.f_s.f_p.f_size.f_Rows, .int .i64 a0.f_s.f_p.f_size.f_Cols, v0_3, .int .i64 a0.f_s.f_p.f_cursor] 126, .own v0_3 80 k_api_Cell a0.f_s.f_p.f_cells]) := by
  unfold keyboard_Keyboard_Lock_m
  refine con (args := [.pointer (some ⟨b0_0, 0, none⟩)]) Tryz.func20 rfl 6 rfl (.c .n) rfl fun c hD => ?_
  refine cSeq ?_
  refine cRegion ?_
  refine lRd (dAssign (.c rfl)) rfl rfl ?_
  refine lNil ?_
  refine xCode ?_
  refine cSeq ?_
  refine cRegion ?_
  refine lRd (dMove (.t (.s .z))) rfl rfl ?_
  refine lRd (dNil (.t .z)) rfl rfl ?_
  refine lRd (dFld fld_97_1 (by decide) (.t .z) rfl) rfl rfl ?_
  refine lRdK (dAssign (.t .z)) (.k (.k (.k (.d (Keep.refl _))))) rfl rfl ?_
  refine lKeep (.k .n) ?_
  refine lNil ?_
  refine xCode ?_
  refine cRet ?_
  exact rDone (rs := [.tmp 2]) rfl (.t .z .n) hD (.inl rfl) () rfl (.c .z (.c .z (.c .z (.c .z .nil))))

-- (*greenscreen/screen.Screen).Plane
def screen_Screen_Plane_m (a0 : screen_Screen) : Option (Unit) := some ()
theorem screen_Screen_Plane_c (a0 : screen_Screen) (b0_0 : Nat) (b0_1 : Nat) (v0_2 : Value) : Con Tryz.prog 26 #[.pointer (some ⟨b0_0, 0, none⟩)] [.blk b0_0 [.int .i64 a0.f_sizes_0.f_Rows, .int .i64 a0.f_sizes_0.f_Cols, .int .i64 a0.f_sizes_1.f_Rows, .int .i64 a0.f_sizes_1.f_Cols, .int .i64 a0.f_which, .pointer (some ⟨b0_1, 0, none⟩)] 124, .blk b0_1 [.int .i64 a0.f_p.f_size.f_Rows, .int .i64 a0.f_p.f_size.f_Cols, v0_2, .int .i64 a0.f_p.f_cursor] 126, .own v0_2 80 k_api_Cell a0.f_p.f_cells] (screen_Screen_Plane_m a0) (fun (o : Unit) (x : Unit) => .pointer (some ⟨b0_1, 0, none⟩)) (fun (o : Unit) (x : Unit) => [.blk b0_0 [.int .i64 a0.f_sizes_0.f_Rows, .int .i64 a0.f_sizes_0.f_Cols, .int .i64 a0.f_sizes_1.f_Rows, .int .i64 a0.f_sizes_1.f_Cols, .int .i64 a0.f_which, .pointer (some ⟨b0_1, 0, none⟩)] 124, .blk b0_1 [.int .i64 a0.f_p.f_size.f_Rows, .int .i64 a0.f_p.f_size.f_Cols, v0_2, .int .i64 a0.f_p.f_cursor] 126, .own v0_2 80 k_api_Cell a0.f_p.f_cells]) := by
  unfold screen_Screen_Plane_m
  refine con (args := [.pointer (some ⟨b0_0, 0, none⟩)]) Tryz.func26 rfl 7 rfl (.c .n) rfl fun c hD => ?_
  refine cSeq ?_
  refine cRegion ?_
  refine lRd (dAssign (.c rfl)) rfl rfl ?_
  refine lNil ?_
  refine xCode ?_
  refine cSeq ?_
  refine cRegion ?_
  refine lRd (dMove (.t (.s .z))) rfl rfl ?_
  refine lRd (dNil (.t .z)) rfl rfl ?_
  refine lRd (dFld fld_124_2 (by decide) (.t .z) rfl) rfl rfl ?_
  refine lRd (dLoad .z agg_70 (.t .z) rfl) rfl rfl ?_
  refine lRdK (dAssign (.t .z)) (.k (.k (.k (.k (.d (Keep.refl _)))))) rfl rfl ?_
  refine lKeep (.k .n) ?_
  refine lNil ?_
  refine xCode ?_
  refine cRet ?_
  exact rDone (rs := [.tmp 2]) rfl (.t .z .n) hD (.inl rfl) () rfl (.c .z (.c .z (.c .z .nil)))

-- (*greenscreen/lock.Lock).May
def lock_Lock_May_m (a0 : lock_Lock) : Option (Int) := (if a0.f_state ≠ 1 then some 40 else some 0)
theorem lock_Lock_May_c (a0 : lock_Lock) (b0_0 : Nat) : Con Tryz.prog 28 #[.pointer (some ⟨b0_0, 0, none⟩)] [.blk b0_0 [.int .i64 a0.f_state, .int .i64 a0.f_why, .int .i64 a0.f_turns] 95] (lock_Lock_May_m a0) (fun (o : Int) (x : Unit) => .int .i64 o) (fun (o : Int) (x : Unit) => [.blk b0_0 [.int .i64 a0.f_state, .int .i64 a0.f_why, .int .i64 a0.f_turns] 95]) := by
  unfold lock_Lock_May_m
  refine con (args := [.pointer (some ⟨b0_0, 0, none⟩)]) Tryz.func28 rfl 8 rfl (.c .n) rfl fun c hD => ?_
  refine cSeq ?_
  refine cRegion ?_
  refine lRd (dAssign (.c rfl)) rfl rfl ?_
  refine lNil ?_
  refine xCode ?_
  refine cSeq ?_
  refine cSeq ?_
  refine cRegion ?_
  refine lRd (dMove (.t (.s .z))) rfl rfl ?_
  refine lRd (dNil (.t .z)) rfl rfl ?_
  refine lRd (dFld fld_95_0 (by decide) (.t .z) rfl) rfl rfl ?_
  refine lRd (dLoad .z agg_3 (.t .z) rfl) rfl rfl ?_
  refine lRd (dNe (.t .z) (.c rfl)) rfl rfl ?_
  refine lKeep (.k (.d (.d (.d (.d (.k .n)))))) ?_
  refine lNil ?_
  refine xCode ?_
  refine cCond (.t .z) (fun h1 => ?_) (fun h1 => ?_)
  · refine cSeq ?_
    refine cRegion ?_
    refine lRdK (dAssign (.c rfl)) (.k (.d (Keep.refl _))) rfl rfl ?_
    refine lKeep (.k .n) ?_
    refine lNil ?_
    refine xCode ?_
    refine cRet ?_
    exact rDone (rs := [.tmp 2]) rfl (.t .z .n) hD (.inl rfl) () rfl (.c .z .nil)
  · refine cSkip ?_
    refine xCode ?_
    refine cSeq ?_
    refine cRegion ?_
    refine lRdK (dAssign (.c rfl)) (.k (.d (Keep.refl _))) rfl rfl ?_
    refine lKeep (.k .n) ?_
    refine lNil ?_
    refine xCode ?_
    refine cRet ?_
    exact rDone (rs := [.tmp 2]) rfl (.t .z .n) hD (.inl rfl) () rfl (.c .z .nil)

-- (*greenscreen/lock.Lock).Reset
def lock_Lock_Reset_m (a0 : lock_Lock) : Option (lock_Lock × Bool) := (if a0.f_state ≠ 3 then some (a0, false) else (lock_Lock_Open_m a0).bind fun o2 => some (o2, true))
theorem lock_Lock_Reset_c (a0 : lock_Lock) (b0_0 : Nat) : Con Tryz.prog 48 #[.pointer (some ⟨b0_0, 0, none⟩)] [.blk b0_0 [.int .i64 a0.f_state, .int .i64 a0.f_why, .int .i64 a0.f_turns] 95] (lock_Lock_Reset_m a0) (fun (o : lock_Lock × Bool) (x : Unit) => .bool o.2) (fun (o : lock_Lock × Bool) (x : Unit) => [.blk b0_0 [.int .i64 o.1.f_state, .int .i64 o.1.f_why, .int .i64 o.1.f_turns] 95]) := by
  unfold lock_Lock_Reset_m
  refine con (args := [.pointer (some ⟨b0_0, 0, none⟩)]) Tryz.func48 rfl 10 rfl (.c .n) rfl fun c hD => ?_
  refine cSeq ?_
  refine cRegion ?_
  refine lRd (dAssign (.c rfl)) rfl rfl ?_
  refine lNil ?_
  refine xCode ?_
  refine cSeq ?_
  refine cSeq ?_
  refine cRegion ?_
  refine lRd (dMove (.t (.s .z))) rfl rfl ?_
  refine lRd (dNil (.t .z)) rfl rfl ?_
  refine lRd (dFld fld_95_0 (by decide) (.t .z) rfl) rfl rfl ?_
  refine lRd (dLoad .z agg_3 (.t .z) rfl) rfl rfl ?_
  refine lRd (dNe (.t .z) (.c rfl)) rfl rfl ?_
  refine lKeep (.k (.d (.d (.d (.d (.k (.k .n))))))) ?_
  refine lNil ?_
  refine xCode ?_
  refine cCond (.t .z) (fun h1 => ?_) (fun h1 => ?_)
  · refine cSeq ?_
    refine cRegion ?_
    refine lRdK (dAssign (.c rfl)) (.k (.d (Keep.refl _))) rfl rfl ?_
    refine lKeep (.k (.d (.k .n))) ?_
    refine lNil ?_
    refine xCode ?_
    refine cRet ?_
    exact rDone (rs := [.tmp 2]) rfl (.t .z .n) hD (.inl rfl) () rfl (.c .z .nil)
  · refine cSkip ?_
    refine xCode ?_
    refine cSeq ?_
    refine cRegion ?_
    refine lRd (dMove (.t (.s (.s .z)))) rfl rfl ?_
    refine lCallN fok_21 (.c (.t .z) .n) (lock_Lock_Open_c a0 b0_0) (.c .z .n) rfl fun o2 x3 h4 => ?_
    refine lKeep (.d (.d (.k .n))) ?_
    refine lNil ?_
    refine xCode ?_
    refine cSeq ?_
    refine cRegion ?_
    refine lRdK (dAssign (.c rfl)) (.d (Keep.refl _)) rfl rfl ?_
    refine lNil ?_
    refine xCode ?_
    refine cRet ?_
    exact rDone (rs := [.tmp 2]) rfl (.t .z .n) hD (.inl rfl) () rfl (.c .z .nil)

-- greenscreen/keyboard.right
def keyboard_right_m (a0 : keyboard_Key) : Option (Bool) := (if a0.f_Kind ≥ 1 then (if a0.f_Kind < 17 then some true else (if a0.f_Kind = 17 then (keyboard_Attention_m a0.f_Byte).bind fun o5 => some o5 else some false)) else (if a0.f_Kind = 17 then (keyboard_Attention_m a0.f_Byte).bind fun o9 => some o9 else some false))
theorem keyboard_right_c (a0 : keyboard_Key) : Con Tryz.prog 49 #[.agg #[.int .i64 a0.f_Kind, vB a0.f_Byte]] [] (keyboard_right_m a0) (fun (o : Bool) (x : Unit) => .bool o) (fun (o : Bool) (x : Unit) => []) := by
  unfold keyboard_right_m
  refine con (args := [.agg #[.int .i64 a0.f_Kind, vB a0.f_Byte]]) Tryz.func49 rfl 21 rfl (.c .n) rfl fun c hD => ?_
  refine cSeq ?_
  refine cRegion ?_
  refine lCh (cBox (cs := [.int .i64 a0.f_Kind, vB a0.f_Byte]) (.t .z) rfl) rfl rfl fun b1 => ?_
  refine lRd (dAssign (.c rfl)) rfl rfl ?_
  refine lKeep (.k (.k .n)) ?_
  refine lNil ?_
  refine xCode ?_
  refine cSeq ?_
  refine cRegion ?_
  refine lRd (dFld fld_23_0 (by decide) (.t (.s .z)) rfl) rfl rfl ?_
  refine lRd (dLoad .z agg_3 (.t .z) rfl) rfl rfl ?_
  refine lRd (dGe (.t .z) (.c rfl)) rfl rfl ?_
  refine lRd (dMove (.t .z)) rfl rfl ?_
  refine lCase (fun h2 => ?_) (fun h2 => ?_)
  · refine lRdG rfl .z (decide_eq_true h2) (dFld fld_23_0 (by decide) (.t (.s (.s (.s (.s (.s .z)))))) rfl) rfl rfl ?_
    refine lRdG rfl (.s .z) (decide_eq_true h2) (dLoad .z agg_3 (.t .z) rfl) rfl rfl ?_
    refine lRdG rfl (.s (.s .z)) (decide_eq_true h2) (dLt (.t .z) (.c rfl)) rfl rfl ?_
    refine lRd (dPickT (.t (.s (.s (.s .z)))) (decide_eq_true h2) (.t .z)) rfl rfl ?_
    refine lRd (dMove (.t .z)) rfl rfl ?_
    refine lCase (fun h3 => ?_) (fun h3 => ?_)
    · refine lPass rfl .z (nbF (decide_eq_true h3)) rfl ?_
      refine lPass rfl .z (nbF (decide_eq_true h3)) rfl ?_
      refine lPass rfl .z (nbF (decide_eq_true h3)) rfl ?_
      refine lPassU rfl .z (nbF (decide_eq_true h3)) rfl rfl ?_
      refine lPass rfl .z nbU rfl ?_
      refine lPass rfl .z nbU rfl ?_
      refine lPass rfl .z nbU rfl ?_
      refine lPass rfl (.s .z) (nbF (decide_eq_true h3)) rfl ?_
      refine lRd (dPickT (.t (.s .z)) (decide_eq_true h3) (.c rfl)) rfl rfl ?_
      refine lRdK (dAssign (.t .z)) (.k (.k (.k (.k (.k (.k (.k (.k (.k (.k (.k (.d (Keep.refl _))))))))))))) rfl rfl ?_
      refine lKeep (.k .n) ?_
      refine lNil ?_
      refine xCode ?_
      refine cRet ?_
      exact rDone (rs := [.tmp 2]) rfl (.t .z .n) hD (.inl rfl) () rfl .nil
    · refine lRdG rfl .z (decide_eq_false h3) (dFld fld_23_0 (by decide) (.t (.s (.s (.s (.s (.s (.s (.s (.s (.s (.s .z))))))))))) rfl) rfl rfl ?_
      refine lRdG rfl (.s .z) (decide_eq_false h3) (dLoad .z agg_3 (.t .z) rfl) rfl rfl ?_
      refine lRdG rfl (.s (.s .z)) (decide_eq_false h3) (dEq (.t .z) (.c rfl)) rfl rfl ?_
      refine lRdG rfl (.s (.s (.s .z))) (decide_eq_false h3) (dMove (.t .z)) rfl rfl ?_
      refine lCase (fun h4 => ?_) (fun h4 => ?_)
      · refine lRdG rfl .z (decide_eq_true h4) (dFld fld_23_1 (by decide) (.t (.s (.s (.s (.s (.s (.s (.s (.s (.s (.s (.s (.s (.s (.s .z))))))))))))))) rfl) rfl rfl ?_
        refine lRdG rfl (.s .z) (decide_eq_true h4) (dLoad .z agg_5 (.t .z) rfl) rfl rfl ?_
        refine lCallG rfl (.s (.s .z)) (decide_eq_true h4) fok_10 (.c (.t .z) .n) (keyboard_Attention_c a0.f_Byte) .n rfl rfl fun o5 x6 h7 => ?_
        refine lRdG rfl (.s (.s (.s (.s (.s (.s (.s .z))))))) (decide_eq_false h3) (dPickT (.t (.s (.s (.s .z)))) (decide_eq_true h4) (.t .z)) rfl rfl ?_
        refine lRd (dPickF (.t (.s (.s (.s (.s (.s (.s (.s (.s .z))))))))) (decide_eq_false h3) (.t .z)) rfl rfl ?_
        refine lRdK (dAssign (.t .z)) (.k (.k (.k (.k (.k (.k (.k (.k (.k (.k (.k (.k (.k (.k (.k (.k (.k (.k (.d (Keep.refl _)))))))))))))))))))) rfl rfl ?_
        refine lKeep (.k .n) ?_
        refine lNil ?_
        refine xCode ?_
        refine cRet ?_
        exact rDone (rs := [.tmp 2]) rfl (.t .z .n) hD (.inl rfl) () rfl .nil
      · refine lPass rfl .z (nbT (decide_eq_false h4)) rfl ?_
        refine lPass rfl .z (nbT (decide_eq_false h4)) rfl ?_
        refine lPass rfl .z (nbT (decide_eq_false h4)) rfl ?_
        refine lRdG rfl (.s (.s (.s (.s .z)))) (decide_eq_false h3) (dPickF (.t .z) (decide_eq_false h4) (.c rfl)) rfl rfl ?_
        refine lRd (dPickF (.t (.s (.s (.s (.s (.s .z)))))) (decide_eq_false h3) (.t .z)) rfl rfl ?_
        refine lRdK (dAssign (.t .z)) (.k (.k (.k (.k (.k (.k (.k (.k (.k (.k (.k (.k (.k (.k (.k (.d (Keep.refl _))))))))))))))))) rfl rfl ?_
        refine lKeep (.k .n) ?_
        refine lNil ?_
        refine xCode ?_
        refine cRet ?_
        exact rDone (rs := [.tmp 2]) rfl (.t .z .n) hD (.inl rfl) () rfl .nil
  · refine lPass rfl .z (nbT (decide_eq_false h2)) rfl ?_
    refine lPass rfl .z (nbT (decide_eq_false h2)) rfl ?_
    refine lPass rfl .z (nbT (decide_eq_false h2)) rfl ?_
    refine lRd (dPickF (.t .z) (decide_eq_false h2) (.c rfl)) rfl rfl ?_
    refine lRd (dMove (.t .z)) rfl rfl ?_
    refine lRdG rfl .z rfl (dFld fld_23_0 (by decide) (.t (.s (.s (.s (.s (.s (.s (.s .z)))))))) rfl) rfl rfl ?_
    refine lRdG rfl (.s .z) rfl (dLoad .z agg_3 (.t .z) rfl) rfl rfl ?_
    refine lRdG rfl (.s (.s .z)) rfl (dEq (.t .z) (.c rfl)) rfl rfl ?_
    refine lRdG rfl (.s (.s (.s .z))) rfl (dMove (.t .z)) rfl rfl ?_
    refine lCase (fun h8 => ?_) (fun h8 => ?_)
    · refine lRdG rfl .z (decide_eq_true h8) (dFld fld_23_1 (by decide) (.t (.s (.s (.s (.s (.s (.s (.s (.s (.s (.s (.s .z)))))))))))) rfl) rfl rfl ?_
      refine lRdG rfl (.s .z) (decide_eq_true h8) (dLoad .z agg_5 (.t .z) rfl) rfl rfl ?_
      refine lCallG rfl (.s (.s .z)) (decide_eq_true h8) fok_10 (.c (.t .z) .n) (keyboard_Attention_c a0.f_Byte) .n rfl rfl fun o9 x10 h11 => ?_
      refine lRdG rfl (.s (.s (.s (.s (.s (.s (.s .z))))))) rfl (dPickT (.t (.s (.s (.s .z)))) (decide_eq_true h8) (.t .z)) rfl rfl ?_
      refine lRd (dPickF (.t (.s (.s (.s (.s (.s (.s (.s (.s .z))))))))) rfl (.t .z)) rfl rfl ?_
      refine lRdK (dAssign (.t .z)) (.k (.k (.k (.k (.k (.k (.k (.k (.k (.k (.k (.k (.k (.k (.k (.d (Keep.refl _))))))))))))))))) rfl rfl ?_
      refine lKeep (.k .n) ?_
      refine lNil ?_
      refine xCode ?_
      refine cRet ?_
      exact rDone (rs := [.tmp 2]) rfl (.t .z .n) hD (.inl rfl) () rfl .nil
    · refine lPass rfl .z (nbT (decide_eq_false h8)) rfl ?_
      refine lPass rfl .z (nbT (decide_eq_false h8)) rfl ?_
      refine lPass rfl .z (nbT (decide_eq_false h8)) rfl ?_
      refine lRdG rfl (.s (.s (.s (.s .z)))) rfl (dPickF (.t .z) (decide_eq_false h8) (.c rfl)) rfl rfl ?_
      refine lRd (dPickF (.t (.s (.s (.s (.s (.s .z)))))) rfl (.t .z)) rfl rfl ?_
      refine lRdK (dAssign (.t .z)) (.k (.k (.k (.k (.k (.k (.k (.k (.k (.k (.k (.k (.d (Keep.refl _)))))))))))))) rfl rfl ?_
      refine lKeep (.k .n) ?_
      refine lNil ?_
      refine xCode ?_
      refine cRet ?_
      exact rDone (rs := [.tmp 2]) rfl (.t .z .n) hD (.inl rfl) () rfl .nil

-- greenscreen/addr.Cells
def addr_Cells_m (a0 : api_Size) : Option (Int) := ((if a0.f_Rows < 1 then some true else (if a0.f_Rows > 43 then some true else (if a0.f_Cols < 1 then some true else (if a0.f_Cols > 132 then some true else some (decide ((w64 (a0.f_Rows * a0.f_Cols)) > 4096))))))).bind fun (s6 : Bool) => (if s6 = true then some 0 else some (w64 (a0.f_Rows * a0.f_Cols)))
theorem addr_Cells_c (a0 : api_Size) : Con Tryz.prog 73 #[.agg #[.int .i64 a0.f_Rows, .int .i64 a0.f_Cols]] [] (addr_Cells_m a0) (fun (o : Int) (x : Unit) => .int .i64 o) (fun (o : Int) (x : Unit) => []) := by
  unfold addr_Cells_m
  refine con (args := [.agg #[.int .i64 a0.f_Rows, .int .i64 a0.f_Cols]]) Tryz.func73 rfl 32 rfl (.c .n) rfl fun c hD => ?_
  refine cSeq ?_
  refine cRegion ?_
  refine lCh (cBox (cs := [.int .i64 a0.f_Rows, .int .i64 a0.f_Cols]) (.t .z) rfl) rfl rfl fun b1 => ?_
  refine lRd (dAssign (.c rfl)) rfl rfl ?_
  refine lKeep (.k (.k .n)) ?_
  refine lNil ?_
  refine xCode ?_
  refine cSeq ?_
  refine cRegion ?_
  refine lRd (dFld fld_33_0 (by decide) (.t (.s .z)) rfl) rfl rfl ?_
  refine lRd (dLoad .z agg_3 (.t .z) rfl) rfl rfl ?_
  refine lRd (dFld fld_33_1 (by decide) (.t (.s (.s (.s .z)))) rfl) rfl rfl ?_
  refine lRd (dLoad .z agg_3 (.t .z) rfl) rfl rfl ?_
  refine lRd (dMulI (.t (.s (.s .z))) (.t .z)) rfl rfl ?_
  refine lRd (dAssign (.t .z)) rfl rfl ?_
  refine lKeep (.k (.d (.d (.d (.d (.d (.k (.k .n)))))))) ?_
  refine lNil ?_
  refine xCode ?_
  refine cSeq ?_
  refine cSeq ?_
  refine cJoin (S := Bool) (X := Unit) (fun (s : Bool) (x : Unit) => [(30, .bool s), (3, .int .i64 (w64 (a0.f_Rows * a0.f_Cols))), (2, .int .i64 0)]) (fun (s : Bool) (x : Unit) => [.blk b1 [.int .i64 a0.f_Rows, .int .i64 a0.f_Cols] 33]) ?_ (fun s6 x7 => ?_)
  · refine cRegion ?_
    refine lRd (dFld fld_33_0 (by decide) (.t (.s (.s .z))) rfl) rfl rfl ?_
    refine lRd (dLoad .z agg_3 (.t .z) rfl) rfl rfl ?_
    refine lRd (dLt (.t .z) (.c rfl)) rfl rfl ?_
    refine lRd (dMove (.t .z)) rfl rfl ?_
    refine lCase (fun h2 => ?_) (fun h2 => ?_)
    · refine lPass rfl .z (nbF (decide_eq_true h2)) rfl ?_
      refine lPass rfl .z (nbF (decide_eq_true h2)) rfl ?_
      refine lPass rfl .z (nbF (decide_eq_true h2)) rfl ?_
      refine lRd (dPickT (.t .z) (decide_eq_true h2) (.c rfl)) rfl rfl ?_
      refine lRd (dMove (.t .z)) rfl rfl ?_
      refine lPass rfl .z (nbF rfl) rfl ?_
      refine lPass rfl .z (nbF rfl) rfl ?_
      refine lPass rfl .z (nbF rfl) rfl ?_
      refine lRd (dPickT (.t .z) rfl (.c rfl)) rfl rfl ?_
      refine lRd (dMove (.t .z)) rfl rfl ?_
      refine lPass rfl .z (nbF rfl) rfl ?_
      refine lPass rfl .z (nbF rfl) rfl ?_
      refine lPass rfl .z (nbF rfl) rfl ?_
      refine lRd (dPickT (.t .z) rfl (.c rfl)) rfl rfl ?_
      refine lRd (dMove (.t .z)) rfl rfl ?_
      refine lPass rfl .z (nbF rfl) rfl ?_
      refine lPass rfl .z (nbF rfl) rfl ?_
      refine lRd (dPickT (.t .z) rfl (.c rfl)) rfl rfl ?_
      refine lKeep (.k (.d (.d (.d (.d (.d (.d (.d (.d (.d (.d (.k (.k .n))))))))))))) ?_
      refine lNil ?_
      exact xJoin true () (.c .z (.c (.s .z) (.c (.s (.s .z)) .n))) (.c .z .nil)
    · refine lRdG rfl .z (decide_eq_false h2) (dFld fld_33_0 (by decide) (.t (.s (.s (.s (.s (.s (.s .z))))))) rfl) rfl rfl ?_
      refine lRdG rfl (.s .z) (decide_eq_false h2) (dLoad .z agg_3 (.t .z) rfl) rfl rfl ?_
      refine lRdG rfl (.s (.s .z)) (decide_eq_false h2) (dGt (.t .z) (.c rfl)) rfl rfl ?_
      refine lRd (dPickF (.t (.s (.s (.s .z)))) (decide_eq_false h2) (.t .z)) rfl rfl ?_
      refine lRd (dMove (.t .z)) rfl rfl ?_
      refine lCase (fun h3 => ?_) (fun h3 => ?_)
      · refine lPass rfl .z (nbF (decide_eq_true h3)) rfl ?_
        refine lPass rfl .z (nbF (decide_eq_true h3)) rfl ?_
        refine lPass rfl .z (nbF (decide_eq_true h3)) rfl ?_
        refine lRd (dPickT (.t .z) (decide_eq_true h3) (.c rfl)) rfl rfl ?_
        refine lRd (dMove (.t .z)) rfl rfl ?_
        refine lPass rfl .z (nbF rfl) rfl ?_
        refine lPass rfl .z (nbF rfl) rfl ?_
        refine lPass rfl .z (nbF rfl) rfl ?_
        refine lRd (dPickT (.t .z) rfl (.c rfl)) rfl rfl ?_
        refine lRd (dMove (.t .z)) rfl rfl ?_
        refine lPass rfl .z (nbF rfl) rfl ?_
        refine lPass rfl .z (nbF rfl) rfl ?_
        refine lRd (dPickT (.t .z) rfl (.c rfl)) rfl rfl ?_
        refine lKeep (.k (.d (.d (.d (.d (.d (.d (.d (.d (.d (.d (.d (.d (.d (.k (.k .n)))))))))))))))) ?_
        refine lNil ?_
        exact xJoin true () (.c .z (.c (.s .z) (.c (.s (.s .z)) .n))) (.c .z .nil)
      · refine lRdG rfl .z (decide_eq_false h3) (dFld fld_33_1 (by decide) (.t (.s (.s (.s (.s (.s (.s (.s (.s (.s (.s (.s .z)))))))))))) rfl) rfl rfl ?_
        refine lRdG rfl (.s .z) (decide_eq_false h3) (dLoad .z agg_3 (.t .z) rfl) rfl rfl ?_
        refine lRdG rfl (.s (.s .z)) (decide_eq_false h3) (dLt (.t .z) (.c rfl)) rfl rfl ?_
        refine lRd (dPickF (.t (.s (.s (.s .z)))) (decide_eq_false h3) (.t .z)) rfl rfl ?_
        refine lRd (dMove (.t .z)) rfl rfl ?_
        refine lCase (fun h4 => ?_) (fun h4 => ?_)
        · refine lPass rfl .z (nbF (decide_eq_true h4)) rfl ?_
          refine lPass rfl .z (nbF (decide_eq_true h4)) rfl ?_
          refine lPass rfl .z (nbF (decide_eq_true h4)) rfl ?_
          refine lRd (dPickT (.t .z) (decide_eq_true h4) (.c rfl)) rfl rfl ?_
          refine lRd (dMove (.t .z)) rfl rfl ?_
          refine lPass rfl .z (nbF rfl) rfl ?_
          refine lPass rfl .z (nbF rfl) rfl ?_
          refine lRd (dPickT (.t .z) rfl (.c rfl)) rfl rfl ?_
          refine lKeep (.k (.d (.d (.d (.d (.d (.d (.d (.d (.d (.d (.d (.d (.d (.d (.d (.d (.k (.k .n))))))))))))))))))) ?_
          refine lNil ?_
          exact xJoin true () (.c .z (.c (.s .z) (.c (.s (.s .z)) .n))) (.c .z .nil)
        · refine lRdG rfl .z (decide_eq_false h4) (dFld fld_33_1 (by decide) (.t (.s (.s (.s (.s (.s (.s (.s (.s (.s (.s (.s (.s (.s (.s (.s (.s .z))))))))))))))))) rfl) rfl rfl ?_
          refine lRdG rfl (.s .z) (decide_eq_false h4) (dLoad .z agg_3 (.t .z) rfl) rfl rfl ?_
          refine lRdG rfl (.s (.s .z)) (decide_eq_false h4) (dGt (.t .z) (.c rfl)) rfl rfl ?_
          refine lRd (dPickF (.t (.s (.s (.s .z)))) (decide_eq_false h4) (.t .z)) rfl rfl ?_
          refine lRd (dMove (.t .z)) rfl rfl ?_
          refine lCase (fun h5 => ?_) (fun h5 => ?_)
          · refine lPass rfl .z (nbF (decide_eq_true h5)) rfl ?_
            refine lPass rfl .z (nbF (decide_eq_true h5)) rfl ?_
            refine lRd (dPickT (.t .z) (decide_eq_true h5) (.c rfl)) rfl rfl ?_
            refine lKeep (.k (.d (.d (.d (.d (.d (.d (.d (.d (.d (.d (.d (.d (.d (.d (.d (.d (.d (.d (.d (.k (.k .n)))))))))))))))))))))) ?_
            refine lNil ?_
            exact xJoin true () (.c .z (.c (.s .z) (.c (.s (.s .z)) .n))) (.c .z .nil)
          · refine lRdG rfl .z (decide_eq_false h5) (dMove (.t (.s (.s (.s (.s (.s (.s (.s (.s (.s (.s (.s (.s (.s (.s (.s (.s (.s (.s (.s .z))))))))))))))))))))) rfl rfl ?_
            refine lRdG rfl (.s .z) (decide_eq_false h5) (dGt (.t .z) (.c rfl)) rfl rfl ?_
            refine lRd (dPickF (.t (.s (.s .z))) (decide_eq_false h5) (.t .z)) rfl rfl ?_
            refine lKeep (.k (.d (.d (.d (.d (.d (.d (.d (.d (.d (.d (.d (.d (.d (.d (.d (.d (.d (.d (.d (.d (.d (.k (.k .n)))))))))))))))))))))))) ?_
            refine lNil ?_
            exact xJoin (decide ((w64 (a0.f_Rows * a0.f_Cols)) > 4096)) () (.c .z (.c (.s .z) (.c (.s (.s .z)) .n))) (.c .z .nil)
  · refine xCode ?_
    refine cCondB (.t .z) (fun h8 => ?_) (fun h8 => ?_)
    · refine cSeq ?_
      refine cRegion ?_
      refine lRdK (dAssign (.c rfl)) (.k (.k (.d (Keep.refl _)))) rfl rfl ?_
      refine lKeep (.k (.d (.k .n))) ?_
      refine lNil ?_
      refine xCode ?_
      refine cRet ?_
      exact rDone (rs := [.tmp 2]) rfl (.t .z .n) hD (.inl rfl) () rfl .nil
    · refine cSkip ?_
      refine xCode ?_
      refine cSeq ?_
      refine cRegion ?_
      refine lRd (dMove (.t (.s .z))) rfl rfl ?_
      refine lRdK (dAssign (.t .z)) (.k (.k (.k (.d (Keep.refl _))))) rfl rfl ?_
      refine lKeep (.k .n) ?_
      refine lNil ?_
      refine xCode ?_
      refine cRet ?_
      exact rDone (rs := [.tmp 2]) rfl (.t .z .n) hD (.inl rfl) () rfl .nil

-- greenscreen/plane.New
def plane_New_m (a0 : api_Size) : Option (plane_Plane × Int) := (addr_Cells_m a0).bind fun o2 => (if o2 = 0 then none else (SX.mk o2 (⟨0, false, false, 0, 0⟩ : api_Cell)).bind fun zs6 => some ((⟨a0, zs6, 0⟩ : plane_Plane), 0))
theorem plane_New_c (a0 : api_Size) : Con Tryz.prog 158 #[.agg #[.int .i64 a0.f_Rows, .int .i64 a0.f_Cols]] [] (plane_New_m a0) (fun (o : plane_Plane × Int) (x : Nat × Value) => .tuple #[.pointer (some ⟨x.1, 0, none⟩), .int .i64 o.2]) (fun (o : plane_Plane × Int) (x : Nat × Value) => [.blk x.1 [.int .i64 o.1.f_size.f_Rows, .int .i64 o.1.f_size.f_Cols, x.2, .int .i64 o.1.f_cursor] 126, .own x.2 80 k_api_Cell o.1.f_cells]) := by
  unfold plane_New_m
  refine con (args := [.agg #[.int .i64 a0.f_Rows, .int .i64 a0.f_Cols]]) Tryz.func158 rfl 14 rfl (.c .n) rfl fun c hD => ?_
  refine cSeq ?_
  refine cRegion ?_
  refine lCh (cBox (cs := [.int .i64 a0.f_Rows, .int .i64 a0.f_Cols]) (.t .z) rfl) rfl rfl fun b1 => ?_
  refine lRd (dAssign (.c rfl)) rfl rfl ?_
  refine lRd (dAssign (.c rfl)) rfl rfl ?_
  refine lKeep (.k (.k (.k .n))) ?_
  refine lNil ?_
  refine xCode ?_
  refine cSeq ?_
  refine cRegion ?_
  refine lRd (dLoadA (us := [.int .i64 a0.f_Rows, .int .i64 a0.f_Cols]) .z agg_33 siz_33 rfl (.t (.s (.s .z))) rfl) rfl rfl ?_
  refine lCall fok_73 (.c (.t .z) .n) (addr_Cells_c a0) .n rfl rfl fun o2 x3 h4 => ?_
  refine lRd (dAssign (.t .z)) rfl rfl ?_
  refine lKeep (.k (.d (.d (.k (.k (.k .n)))))) ?_
  refine lNil ?_
  refine xCode ?_
  refine cSeq ?_
  refine cSeq ?_
  refine cRegion ?_
  refine lRd (dMove (.t .z)) rfl rfl ?_
  refine lRd (dEq (.t .z) (.c rfl)) rfl rfl ?_
  refine lKeep (.k (.d (.k (.k (.k (.k .n)))))) ?_
  refine lNil ?_
  refine xCode ?_
  refine cCond (.t .z) (fun h5 => ?_) (fun h5 => ?_)
  · refine cSeq ?_
    refine cRegion ?_
    refine lRdK (dAssign (.c rfl)) (.k (.k (.k (.d (Keep.refl _))))) rfl rfl ?_
    refine lRdK (dAssign (.c rfl)) (.k (.k (.k (.d (Keep.refl _))))) rfl rfl ?_
    refine lKeep (.k (.k (.d (.k (.k .n))))) ?_
    refine lNil ?_
    refine xCode ?_
    exact cStuck
  · refine cSkip ?_
    refine xCode ?_
    refine cSeq ?_
    refine cRegionM [2, 4] [(0, .quiet), (1, .early), (2, .only), (3, .quiet), (4, .only), (5, .quiet), (6, .quiet)] mixed (by kernel_rfl) (.c .z .nil) (.c .n) ?_
    refine mRd rfl rfl (fun _ _ _ => dLoadA (us := [.int .i64 a0.f_Rows, .int .i64 a0.f_Cols]) .z agg_33 siz_33 rfl (.t (.s (.s (.s (.s .z))))) rfl) rfl rfl ?_
    refine mRd rfl rfl (fun _ _ _ => dMove (.t (.s (.s .z)))) rfl rfl ?_
    refine mBind fun zs6 h7 => ?_
    refine mCh rfl rfl (cMake (k := k_api_Cell) (zx := (⟨0, false, false, 0, 0⟩ : api_Cell)) und_37 inf_80 rfl (by decide) zer_80 (fun _ => rfl) (.t .z) (.t .z) h7) (fun b8 => (.c (.s .z) (.c .z .nil))) (fun _ => (.c .n)) rfl rfl fun b8 => ?_
    refine mRd rfl rfl (fun _ _ _ => dBuild (cs := [.int .i64 a0.f_Rows, .int .i64 a0.f_Cols, .slice (some ⟨b8, 0, none⟩) (Int.toNat o2) (Int.toNat o2), .int .i64 0]) zer_126 rfl plc_126 (.c (.t (.s (.s .z))) (.c (.t .z) .n)) rfl) rfl rfl ?_
    refine mCh rfl rfl (cBox (cs := [.int .i64 a0.f_Rows, .int .i64 a0.f_Cols, .slice (some ⟨b8, 0, none⟩) (Int.toNat o2) (Int.toNat o2), .int .i64 0]) (.t .z) rfl) (fun b9 => (.c (.s .z) (.c .z (.c .z .nil)))) (fun _ => (.c .n)) rfl rfl fun b9 => ?_
    refine mRdK rfl rfl (fun _ _ _ => dAssign (.t .z)) (.k (.k (.k (.k (.k (.k (.k (.k (.d (Keep.refl _)))))))))) rfl rfl ?_
    refine mRdK rfl rfl (fun _ _ _ => dAssign (.c rfl)) (.k (.k (.k (.k (.k (.k (.k (.k (.d (Keep.refl _)))))))))) rfl rfl ?_
    refine mKeep (.k (.k .n)) ?_
    refine mNil ?_
    refine xCode ?_
    refine cRet ?_
    exact rDone (rs := [.tmp 2, .tmp 3]) rfl (.t (.s .z) (.t .z .n)) hD (.inl rfl) (b9, .slice (some ⟨b8, 0, none⟩) (Int.toNat o2) (Int.toNat o2)) rfl (.c (.s .z) (.c (.s .z) .nil))

def plane_New_nil_m (a0 : api_Size) : Option (Int) := (addr_Cells_m a0).bind fun o2 => (if o2 = 0 then some 1 else (SX.mk o2 (⟨0, false, false, 0, 0⟩ : api_Cell)).bind fun zs6 => none)
theorem plane_New_nil_c (a0 : api_Size) : Con Tryz.prog 158 #[.agg #[.int .i64 a0.f_Rows, .int .i64 a0.f_Cols]] [] (plane_New_nil_m a0) (fun (o : Int) (x : Unit) => .tuple #[.pointer none, .int .i64 o]) (fun (o : Int) (x : Unit) => []) := by
  unfold plane_New_nil_m
  refine con (args := [.agg #[.int .i64 a0.f_Rows, .int .i64 a0.f_Cols]]) Tryz.func158 rfl 14 rfl (.c .n) rfl fun c hD => ?_
  refine cSeq ?_
  refine cRegion ?_
  refine lCh (cBox (cs := [.int .i64 a0.f_Rows, .int .i64 a0.f_Cols]) (.t .z) rfl) rfl rfl fun b1 => ?_
  refine lRd (dAssign (.c rfl)) rfl rfl ?_
  refine lRd (dAssign (.c rfl)) rfl rfl ?_
  refine lKeep (.k (.k (.k .n))) ?_
  refine lNil ?_
  refine xCode ?_
  refine cSeq ?_
  refine cRegion ?_
  refine lRd (dLoadA (us := [.int .i64 a0.f_Rows, .int .i64 a0.f_Cols]) .z agg_33 siz_33 rfl (.t (.s (.s .z))) rfl) rfl rfl ?_
  refine lCall fok_73 (.c (.t .z) .n) (addr_Cells_c a0) .n rfl rfl fun o2 x3 h4 => ?_
  refine lRd (dAssign (.t .z)) rfl rfl ?_
  refine lKeep (.k (.d (.d (.k (.k (.k .n)))))) ?_
  refine lNil ?_
  refine xCode ?_
  refine cSeq ?_
  refine cSeq ?_
  refine cRegion ?_
  refine lRd (dMove (.t .z)) rfl rfl ?_
  refine lRd (dEq (.t .z) (.c rfl)) rfl rfl ?_
  refine lKeep (.k (.d (.k (.k (.k (.k .n)))))) ?_
  refine lNil ?_
  refine xCode ?_
  refine cCond (.t .z) (fun h5 => ?_) (fun h5 => ?_)
  · refine cSeq ?_
    refine cRegion ?_
    refine lRdK (dAssign (.c rfl)) (.k (.k (.k (.d (Keep.refl _))))) rfl rfl ?_
    refine lRdK (dAssign (.c rfl)) (.k (.k (.k (.d (Keep.refl _))))) rfl rfl ?_
    refine lKeep (.k (.k (.d (.k (.k .n))))) ?_
    refine lNil ?_
    refine xCode ?_
    refine cRet ?_
    exact rDone (rs := [.tmp 2, .tmp 3]) rfl (.t (.s .z) (.t .z .n)) hD (.inl rfl) () rfl .nil
  · refine cSkip ?_
    refine xCode ?_
    refine cSeq ?_
    refine cRegionM [2, 4] [(0, .quiet), (1, .early), (2, .only), (3, .quiet), (4, .only), (5, .quiet), (6, .quiet)] mixed (by kernel_rfl) (.c .z .nil) (.c .n) ?_
    refine mRd rfl rfl (fun _ _ _ => dLoadA (us := [.int .i64 a0.f_Rows, .int .i64 a0.f_Cols]) .z agg_33 siz_33 rfl (.t (.s (.s (.s (.s .z))))) rfl) rfl rfl ?_
    refine mRd rfl rfl (fun _ _ _ => dMove (.t (.s (.s .z)))) rfl rfl ?_
    refine mBind fun zs6 h7 => ?_
    refine mCh rfl rfl (cMake (k := k_api_Cell) (zx := (⟨0, false, false, 0, 0⟩ : api_Cell)) und_37 inf_80 rfl (by decide) zer_80 (fun _ => rfl) (.t .z) (.t .z) h7) (fun b8 => (.c (.s .z) (.c .z .nil))) (fun _ => (.c .n)) rfl rfl fun b8 => ?_
    refine mRd rfl rfl (fun _ _ _ => dBuild (cs := [.int .i64 a0.f_Rows, .int .i64 a0.f_Cols, .slice (some ⟨b8, 0, none⟩) (Int.toNat o2) (Int.toNat o2), .int .i64 0]) zer_126 rfl plc_126 (.c (.t (.s (.s .z))) (.c (.t .z) .n)) rfl) rfl rfl ?_
    refine mCh rfl rfl (cBox (cs := [.int .i64 a0.f_Rows, .int .i64 a0.f_Cols, .slice (some ⟨b8, 0, none⟩) (Int.toNat o2) (Int.toNat o2), .int .i64 0]) (.t .z) rfl) (fun b9 => (.c (.s .z) (.c .z (.c .z .nil)))) (fun _ => (.c .n)) rfl rfl fun b9 => ?_
    refine mRdK rfl rfl (fun _ _ _ => dAssign (.t .z)) (.k (.k (.k (.k (.k (.k (.k (.k (.d (Keep.refl _)))))))))) rfl rfl ?_
    refine mRdK rfl rfl (fun _ _ _ => dAssign (.c rfl)) (.k (.k (.k (.k (.k (.k (.k (.k (.d (Keep.refl _)))))))))) rfl rfl ?_
    refine mKeep (.k (.k .n)) ?_
    refine mNil ?_
    refine xCode ?_
    exact cStuck

-- (*greenscreen/screen.Screen).renew
def screen_Screen_renew_m (a0 : screen_Screen) (a1 : Int) : Option (screen_Screen) := (if a1 = 0 then (plane_New_m a0.f_sizes_0).bind fun o2 => some (⟨a0.f_sizes_0, a0.f_sizes_1, a1, o2.1⟩ : screen_Screen) else (if a1 = 1 then (plane_New_m a0.f_sizes_1).bind fun o6 => some (⟨a0.f_sizes_0, a0.f_sizes_1, a1, o6.1⟩ : screen_Screen) else none))
theorem screen_Screen_renew_c (a0 : screen_Screen) (a1 : Int) (b0_0 : Nat) (b0_1 : Nat) (v0_2 : Value) : Con Tryz.prog 118 #[.pointer (some ⟨b0_0, 0, none⟩), .int .i64 a1] [.blk b0_0 [.int .i64 a0.f_sizes_0.f_Rows, .int .i64 a0.f_sizes_0.f_Cols, .int .i64 a0.f_sizes_1.f_Rows, .int .i64 a0.f_sizes_1.f_Cols, .int .i64 a0.f_which, .pointer (some ⟨b0_1, 0, none⟩)] 124, .blk b0_1 [.int .i64 a0.f_p.f_size.f_Rows, .int .i64 a0.f_p.f_size.f_Cols, v0_2, .int .i64 a0.f_p.f_cursor] 126, .own v0_2 80 k_api_Cell a0.f_p.f_cells] (screen_Screen_renew_m a0 a1) (fun (o : screen_Screen) (x : Nat × Value) => .tuple #[]) (fun (o : screen_Screen) (x : Nat × Value) => [.blk b0_0 [.int .i64 o.f_sizes_0.f_Rows, .int .i64 o.f_sizes_0.f_Cols, .int .i64 o.f_sizes_1.f_Rows, .int .i64 o.f_sizes_1.f_Cols, .int .i64 o.f_which, .pointer (some ⟨x.1, 0, none⟩)] 124, .blk x.1 [.int .i64 o.f_p.f_size.f_Rows, .int .i64 o.f_p.f_size.f_Cols, x.2, .int .i64 o.f_p.f_cursor] 126, .own x.2 80 k_api_Cell o.f_p.f_cells]) := by
  unfold screen_Screen_renew_m
  refine con (args := [.pointer (some ⟨b0_0, 0, none⟩), .int .i64 a1]) Tryz.func118 rfl 21 rfl (.c (.c .n)) rfl fun c hD => ?_
  refine cSeq ?_
  refine cRegion ?_
  refine lRd (dMove (.t .z)) rfl rfl ?_
  refine lRd (dMove (.t (.s (.s .z)))) rfl rfl ?_
  refine lRd (dNil (.t (.s .z))) rfl rfl ?_
  refine lRd (dFld fld_124_1 (by decide) (.t .z) rfl) rfl rfl ?_
  refine lChU (uStore .z siz_3 rfl (.s (.s (.s (.s .z)))) (.t .z) (.t (.s (.s .z)))) ?_
  refine lKeep (.d (.d (.d (.d (.k (.k .n)))))) ?_
  refine lNil ?_
  refine xCode ?_
  refine cRegion ?_
  refine lRd (dMove (.t .z)) rfl rfl ?_
  refine lRd (dMove (.t (.s .z))) rfl rfl ?_
  refine lRd (dMove (.t (.s (.s (.s .z))))) rfl rfl ?_
  refine lRd (dNil (.t (.s .z))) rfl rfl ?_
  refine lRd (dFld fld_124_0 (by decide) (.t .z) rfl) rfl rfl ?_
  refine lCase (fun h1 => ?_) (fun h1 => ?_)
  · refine lRd (dIxArrV h1 und_122 siz_33 (.t .z) (.t (.s (.s .z))) (by decide) (by decide)) rfl rfl ?_
    refine lRd (dLoadA (us := [.int .i64 a0.f_sizes_0.f_Rows, .int .i64 a0.f_sizes_0.f_Cols]) .z agg_33 siz_33 rfl (.t .z) rfl) rfl rfl ?_
    refine lCall fok_158 (.c (.t .z) .n) (plane_New_c a0.f_sizes_0) .n rfl rfl fun o2 x3 h4 => ?_
    refine lRd (dMove (.t .z)) rfl rfl ?_
    refine lRd (dExtract (.t .z) rfl) rfl rfl ?_
    refine lRdN (dExtract (.t (.s .z)) rfl) rfl ?_
    refine lRd (dNil (.t (.s (.s (.s (.s (.s (.s (.s (.s (.s .z))))))))))) rfl rfl ?_
    refine lRd (dFld fld_124_2 (by decide) (.t .z) rfl) rfl rfl ?_
    refine lChU (uStore (.s (.s .z)) siz_70 rfl (.s (.s (.s (.s (.s .z))))) (.t .z) (.t (.s (.s .z)))) ?_
    refine lKeep .n ?_
    refine lNil ?_
    exact xDone (rs := []) rfl .n hD (x3.1, x3.2) rfl (.c (.s (.s .z)) (.c .z (.c .z .nil)))
  · refine lCase (fun h5 => ?_) (fun h5 => ?_)
    · refine lRd (dIxArrV h5 und_122 siz_33 (.t .z) (.t (.s (.s .z))) (by decide) (by decide)) rfl rfl ?_
      refine lRd (dLoadA (us := [.int .i64 a0.f_sizes_1.f_Rows, .int .i64 a0.f_sizes_1.f_Cols]) .z agg_33 siz_33 rfl (.t .z) rfl) rfl rfl ?_
      refine lCall fok_158 (.c (.t .z) .n) (plane_New_c a0.f_sizes_1) .n rfl rfl fun o6 x7 h8 => ?_
      refine lRd (dMove (.t .z)) rfl rfl ?_
      refine lRd (dExtract (.t .z) rfl) rfl rfl ?_
      refine lRdN (dExtract (.t (.s .z)) rfl) rfl ?_
      refine lRd (dNil (.t (.s (.s (.s (.s (.s (.s (.s (.s (.s .z))))))))))) rfl rfl ?_
      refine lRd (dFld fld_124_2 (by decide) (.t .z) rfl) rfl rfl ?_
      refine lChU (uStore (.s (.s .z)) siz_70 rfl (.s (.s (.s (.s (.s .z))))) (.t .z) (.t (.s (.s .z)))) ?_
      refine lKeep .n ?_
      refine lNil ?_
      exact xDone (rs := []) rfl .n hD (x7.1, x7.2) rfl (.c (.s (.s .z)) (.c .z (.c .z .nil)))
    · exact lStuck

-- (*greenscreen/screen.Screen).Clear
def screen_Screen_Clear_m (a0 : screen_Screen) : Option (screen_Screen) := (screen_Screen_renew_m a0 0).bind fun o1 => some o1
theorem screen_Screen_Clear_c (a0 : screen_Screen) (b0_0 : Nat) (b0_1 : Nat) (v0_2 : Value) : Con Tryz.prog 74 #[.pointer (some ⟨b0_0, 0, none⟩)] [.blk b0_0 [.int .i64 a0.f_sizes_0.f_Rows, .int .i64 a0.f_sizes_0.f_Cols, .int .i64 a0.f_sizes_1.f_Rows, .int .i64 a0.f_sizes_1.f_Cols, .int .i64 a0.f_which, .pointer (some ⟨b0_1, 0, none⟩)] 124, .blk b0_1 [.int .i64 a0.f_p.f_size.f_Rows, .int .i64 a0.f_p.f_size.f_Cols, v0_2, .int .i64 a0.f_p.f_cursor] 126, .own v0_2 80 k_api_Cell a0.f_p.f_cells] (screen_Screen_Clear_m a0) (fun (o : screen_Screen) (x : Nat × Value) => .tuple #[]) (fun (o : screen_Screen) (x : Nat × Value) => [.blk b0_0 [.int .i64 o.f_sizes_0.f_Rows, .int .i64 o.f_sizes_0.f_Cols, .int .i64 o.f_sizes_1.f_Rows, .int .i64 o.f_sizes_1.f_Cols, .int .i64 o.f_which, .pointer (some ⟨x.1, 0, none⟩)] 124, .blk x.1 [.int .i64 o.f_p.f_size.f_Rows, .int .i64 o.f_p.f_size.f_Cols, x.2, .int .i64 o.f_p.f_cursor] 126, .own x.2 80 k_api_Cell o.f_p.f_cells]) := by
  unfold screen_Screen_Clear_m
  refine con (args := [.pointer (some ⟨b0_0, 0, none⟩)]) Tryz.func74 rfl 4 rfl (.c .n) rfl fun c hD => ?_
  refine cRegion ?_
  refine lRd (dMove (.t .z)) rfl rfl ?_
  refine lCallN fok_118 (.c (.t .z) (.c (.c rfl) .n)) (screen_Screen_renew_c a0 0 b0_0 b0_1 v0_2) (.c .z (.c .z (.c .z .n))) rfl fun o1 x2 h3 => ?_
  refine lKeep .n ?_
  refine lNil ?_
  exact xDone (rs := []) rfl .n hD (x2.1, x2.2) rfl (.c .z (.c .z (.c .z .nil)))

-- (*greenscreen/lock.Lock).Send
def lock_Lock_Send_m (a0 : lock_Lock) : Option (lock_Lock × Int) := (lock_Lock_May_m a0).bind fun o1 => (if o1 ≠ 0 then some (a0, o1) else (lock_Lock_turn_m a0 2 0).bind fun o5 => some (o5, 0))
theorem lock_Lock_Send_c (a0 : lock_Lock) (b0_0 : Nat) : Con Tryz.prog 94 #[.pointer (some ⟨b0_0, 0, none⟩)] [.blk b0_0 [.int .i64 a0.f_state, .int .i64 a0.f_why, .int .i64 a0.f_turns] 95] (lock_Lock_Send_m a0) (fun (o : lock_Lock × Int) (x : Unit) => .int .i64 o.2) (fun (o : lock_Lock × Int) (x : Unit) => [.blk b0_0 [.int .i64 o.1.f_state, .int .i64 o.1.f_why, .int .i64 o.1.f_turns] 95]) := by
  unfold lock_Lock_Send_m
  refine con (args := [.pointer (some ⟨b0_0, 0, none⟩)]) Tryz.func94 rfl 11 rfl (.c .n) rfl fun c hD => ?_
  refine cSeq ?_
  refine cRegion ?_
  refine lRd (dAssign (.c rfl)) rfl rfl ?_
  refine lNil ?_
  refine xCode ?_
  refine cSeq ?_
  refine cSeq ?_
  refine cRegion ?_
  refine lRd (dMove (.t (.s .z))) rfl rfl ?_
  refine lCall fok_28 (.c (.t .z) .n) (lock_Lock_May_c a0 b0_0) (.c .z .n) rfl rfl fun o1 x2 h3 => ?_
  refine lRd (dAssign (.t .z)) rfl rfl ?_
  refine lKeep (.k (.d (.d (.k (.k .n))))) ?_
  refine lNil ?_
  refine xCode ?_
  refine cSeq ?_
  refine cRegion ?_
  refine lRd (dMove (.t .z)) rfl rfl ?_
  refine lRd (dNe (.t .z) (.c rfl)) rfl rfl ?_
  refine lKeep (.k (.d (.k (.k (.k .n))))) ?_
  refine lNil ?_
  refine xCode ?_
  refine cCond (.t .z) (fun h4 => ?_) (fun h4 => ?_)
  · refine cSeq ?_
    refine cRegion ?_
    refine lRd (dMove (.t (.s .z))) rfl rfl ?_
    refine lRdK (dAssign (.t .z)) (.k (.k (.k (.d (Keep.refl _))))) rfl rfl ?_
    refine lKeep (.k (.d (.d (.d (.k .n))))) ?_
    refine lNil ?_
    refine xCode ?_
    refine cRet ?_
    exact rDone (rs := [.tmp 2]) rfl (.t .z .n) hD (.inl rfl) () rfl (.c .z .nil)
  · refine cSkip ?_
    refine xCode ?_
    refine cSeq ?_
    refine cRegion ?_
    refine lRd (dMove (.t (.s (.s (.s .z))))) rfl rfl ?_
    refine lCallN fok_47 (.c (.t .z) (.c (.c rfl) (.c (.c rfl) .n))) (lock_Lock_turn_c a0 2 0 b0_0) (.c .z .n) rfl fun o5 x6 h7 => ?_
    refine lKeep (.d (.d (.d (.k .n)))) ?_
    refine lNil ?_
    refine xCode ?_
    refine cSeq ?_
    refine cRegion ?_
    refine lRdK (dAssign (.c rfl)) (.d (Keep.refl _)) rfl rfl ?_
    refine lNil ?_
    refine xCode ?_
    refine cRet ?_
    exact rDone (rs := [.tmp 2]) rfl (.t .z .n) hD (.inl rfl) () rfl (.c .z .nil)

-- (*greenscreen/lock.Lock).May
def lock_Lock_May_v0_m (a0 : keyboard_Keyboard) : Option (Int) := (if a0.f_l.f_state ≠ 1 then some 40 else some 0)
theorem lock_Lock_May_v0_c (a0 : keyboard_Keyboard) (b0_0 : Nat) (b0_1 : Nat) (b0_2 : Nat) (v0_3 : Value) : Con Tryz.prog 28 #[.pointer (some ⟨b0_0, 1, none⟩)] [.blk b0_0 [.pointer (some ⟨b0_1, 0, none⟩), .int .i64 a0.f_l.f_state, .int .i64 a0.f_l.f_why, .int .i64 a0.f_l.f_turns, .bool a0.f_insert, vB a0.f_last] 97, .blk b0_1 [.int .i64 a0.f_s.f_sizes_0.f_Rows, .int .i64 a0.f_s.f_sizes_0.f_Cols, .int .i64 a0.f_s.f_sizes_1.f_Rows, .int .i64 a0.f_s.f_sizes_1.f_Cols, .int .i64 a0.f_s.f_which, .pointer (some ⟨b0_2, 0, none⟩)] 124, .blk b0_2 [.int .i64 a0.f_s.f_p.f_size.f_Rows, .int .i64 a0.f_s.f_p.f_size.f_Cols, v0_3, .int .i64 a0.f_s.f_p.f_cursor] 126, .own v0_3 80 k_api_Cell a0.f_s.f_p.f_cells] (lock_Lock_May_v0_m a0) (fun (o : Int) (x : Unit) => .int .i64 o) (fun (o : Int) (x : Unit) => [.blk b0_0 [.pointer (some ⟨b0_1, 0, none⟩), .int .i64 a0.f_l.f_state, .int .i64 a0.f_l.f_why, .int .i64 a0.f_l.f_turns, .bool a0.f_insert, vB a0.f_last] 97, .blk b0_1 [.int .i64 a0.f_s.f_sizes_0.f_Rows, .int .i64 a0.f_s.f_sizes_0.f_Cols, .int .i64 a0.f_s.f_sizes_1.f_Rows, .int .i64 a0.f_s.f_sizes_1.f_Cols, .int .i64 a0.f_s.f_which, .pointer (some ⟨b0_2, 0, none⟩)] 124, .blk b0_2 [.int .i64 a0.f_s.f_p.f_size.f_Rows, .int .i64 a0.f_s.f_p.f_size.f_Cols, v0_3, .int .i64 a0.f_s.f_p.f_cursor] 126, .own v0_3 80 k_api_Cell a0.f_s.f_p.f_cells]) := by
  unfold lock_Lock_May_v0_m
  refine con (args := [.pointer (some ⟨b0_0, 1, none⟩)]) Tryz.func28 rfl 8 rfl (.c .n) rfl fun c hD => ?_
  refine cSeq ?_
  refine cRegion ?_
  refine lRd (dAssign (.c rfl)) rfl rfl ?_
  refine lNil ?_
  refine xCode ?_
  refine cSeq ?_
  refine cSeq ?_
  refine cRegion ?_
  refine lRd (dMove (.t (.s .z))) rfl rfl ?_
  refine lRd (dNil (.t .z)) rfl rfl ?_
  refine lRd (dFld fld_95_0 (by decide) (.t .z) rfl) rfl rfl ?_
  refine lRd (dLoad .z agg_3 (.t .z) rfl) rfl rfl ?_
  refine lRd (dNe (.t .z) (.c rfl)) rfl rfl ?_
  refine lKeep (.k (.d (.d (.d (.d (.k .n)))))) ?_
  refine lNil ?_
  refine xCode ?_
  refine cCond (.t .z) (fun h1 => ?_) (fun h1 => ?_)
  · refine cSeq ?_
    refine cRegion ?_
    refine lRdK (dAssign (.c rfl)) (.k (.d (Keep.refl _))) rfl rfl ?_
    refine lKeep (.k .n) ?_
    refine lNil ?_
    refine xCode ?_
    refine cRet ?_
    exact rDone (rs := [.tmp 2]) rfl (.t .z .n) hD (.inl rfl) () rfl (.c .z (.c .z (.c .z (.c .z .nil))))
  · refine cSkip ?_
    refine xCode ?_
    refine cSeq ?_
    refine cRegion ?_
    refine lRdK (dAssign (.c rfl)) (.k (.d (Keep.refl _))) rfl rfl ?_
    refine lKeep (.k .n) ?_
    refine lNil ?_
    refine xCode ?_
    refine cRet ?_
    exact rDone (rs := [.tmp 2]) rfl (.t .z .n) hD (.inl rfl) () rfl (.c .z (.c .z (.c .z (.c .z .nil))))

-- (*greenscreen/lock.Lock).Send
def lock_Lock_Send_v0_m (a0 : keyboard_Keyboard) : Option (keyboard_Keyboard × Int) := (lock_Lock_May_v0_m a0).bind fun o1 => (if o1 ≠ 0 then some (a0, o1) else (lock_Lock_turn_v0_m a0 2 0).bind fun o5 => some (o5, 0))
theorem lock_Lock_Send_v0_c (a0 : keyboard_Keyboard) (b0_0 : Nat) (b0_1 : Nat) (b0_2 : Nat) (v0_3 : Value) : Con Tryz.prog 94 #[.pointer (some ⟨b0_0, 1, none⟩)] [.blk b0_0 [.pointer (some ⟨b0_1, 0, none⟩), .int .i64 a0.f_l.f_state, .int .i64 a0.f_l.f_why, .int .i64 a0.f_l.f_turns, .bool a0.f_insert, vB a0.f_last] 97, .blk b0_1 [.int .i64 a0.f_s.f_sizes_0.f_Rows, .int .i64 a0.f_s.f_sizes_0.f_Cols, .int .i64 a0.f_s.f_sizes_1.f_Rows, .int .i64 a0.f_s.f_sizes_1.f_Cols, .int .i64 a0.f_s.f_which, .pointer (some ⟨b0_2, 0, none⟩)] 124, .blk b0_2 [.int .i64 a0.f_s.f_p.f_size.f_Rows, .int .i64 a0.f_s.f_p.f_size.f_Cols, v0_3, .int .i64 a0.f_s.f_p.f_cursor] 126, .own v0_3 80 k_api_Cell a0.f_s.f_p.f_cells] (lock_Lock_Send_v0_m a0) (fun (o : keyboard_Keyboard × Int) (x : Unit) => .int .i64 o.2) (fun (o : keyboard_Keyboard × Int) (x : Unit) => [.blk b0_0 [.pointer (some ⟨b0_1, 0, none⟩), .int .i64 o.1.f_l.f_state, .int .i64 o.1.f_l.f_why, .int .i64 o.1.f_l.f_turns, .bool o.1.f_insert, vB o.1.f_last] 97, .blk b0_1 [.int .i64 o.1.f_s.f_sizes_0.f_Rows, .int .i64 o.1.f_s.f_sizes_0.f_Cols, .int .i64 o.1.f_s.f_sizes_1.f_Rows, .int .i64 o.1.f_s.f_sizes_1.f_Cols, .int .i64 o.1.f_s.f_which, .pointer (some ⟨b0_2, 0, none⟩)] 124, .blk b0_2 [.int .i64 o.1.f_s.f_p.f_size.f_Rows, .int .i64 o.1.f_s.f_p.f_size.f_Cols, v0_3, .int .i64 o.1.f_s.f_p.f_cursor] 126, .own v0_3 80 k_api_Cell o.1.f_s.f_p.f_cells]) := by
  unfold lock_Lock_Send_v0_m
  refine con (args := [.pointer (some ⟨b0_0, 1, none⟩)]) Tryz.func94 rfl 11 rfl (.c .n) rfl fun c hD => ?_
  refine cSeq ?_
  refine cRegion ?_
  refine lRd (dAssign (.c rfl)) rfl rfl ?_
  refine lNil ?_
  refine xCode ?_
  refine cSeq ?_
  refine cSeq ?_
  refine cRegion ?_
  refine lRd (dMove (.t (.s .z))) rfl rfl ?_
  refine lCall fok_28 (.c (.t .z) .n) (lock_Lock_May_v0_c a0 b0_0 b0_1 b0_2 v0_3) (.c .z (.c .z (.c .z (.c .z .n)))) rfl rfl fun o1 x2 h3 => ?_
  refine lRd (dAssign (.t .z)) rfl rfl ?_
  refine lKeep (.k (.d (.d (.k (.k .n))))) ?_
  refine lNil ?_
  refine xCode ?_
  refine cSeq ?_
  refine cRegion ?_
  refine lRd (dMove (.t .z)) rfl rfl ?_
  refine lRd (dNe (.t .z) (.c rfl)) rfl rfl ?_
  refine lKeep (.k (.d (.k (.k (.k .n))))) ?_
  refine lNil ?_
  refine xCode ?_
  refine cCond (.t .z) (fun h4 => ?_) (fun h4 => ?_)
  · refine cSeq ?_
    refine cRegion ?_
    refine lRd (dMove (.t (.s .z))) rfl rfl ?_
    refine lRdK (dAssign (.t .z)) (.k (.k (.k (.d (Keep.refl _))))) rfl rfl ?_
    refine lKeep (.k (.d (.d (.d (.k .n))))) ?_
    refine lNil ?_
    refine xCode ?_
    refine cRet ?_
    exact rDone (rs := [.tmp 2]) rfl (.t .z .n) hD (.inl rfl) () rfl (.c .z (.c .z (.c .z (.c .z .nil))))
  · refine cSkip ?_
    refine xCode ?_
    refine cSeq ?_
    refine cRegion ?_
    refine lRd (dMove (.t (.s (.s (.s .z))))) rfl rfl ?_
    refine lCallN fok_47 (.c (.t .z) (.c (.c rfl) (.c (.c rfl) .n))) (lock_Lock_turn_v0_c a0 2 0 b0_0 b0_1 b0_2 v0_3) (.c .z (.c .z (.c .z (.c .z .n)))) rfl fun o5 x6 h7 => ?_
    refine lKeep (.d (.d (.d (.k .n)))) ?_
    refine lNil ?_
    refine xCode ?_
    refine cSeq ?_
    refine cRegion ?_
    refine lRdK (dAssign (.c rfl)) (.d (Keep.refl _)) rfl rfl ?_
    refine lNil ?_
    refine xCode ?_
    refine cRet ?_
    exact rDone (rs := [.tmp 2]) rfl (.t .z .n) hD (.inl rfl) () rfl (.c .z (.c .z (.c .z (.c .z .nil))))

-- (*greenscreen/keyboard.Keyboard).send
def keyboard_Keyboard_send_m (a0 : keyboard_Keyboard) (a1 : UInt8) : Option (keyboard_Keyboard × Bool × Int) := (lock_Lock_Send_v0_m a0).bind fun o1 => (if o1.2 ≠ 0 then some (o1.1, false, o1.2) else (if a1 = (109 : UInt8) then (screen_Screen_Clear_m o1.1.f_s).bind fun o6 => some ((⟨o6, o1.1.f_l, false, a1⟩ : keyboard_Keyboard), true, 0) else some ((⟨o1.1.f_s, o1.1.f_l, false, a1⟩ : keyboard_Keyboard), true, 0)))
theorem keyboard_Keyboard_send_c (a0 : keyboard_Keyboard) (a1 : UInt8) (b0_0 : Nat) (b0_1 : Nat) (b0_2 : Nat) (v0_3 : Value) : Con Tryz.prog 50 #[.pointer (some ⟨b0_0, 0, none⟩), vB a1] [.blk b0_0 [.pointer (some ⟨b0_1, 0, none⟩), .int .i64 a0.f_l.f_state, .int .i64 a0.f_l.f_why, .int .i64 a0.f_l.f_turns, .bool a0.f_insert, vB a0.f_last] 97, .blk b0_1 [.int .i64 a0.f_s.f_sizes_0.f_Rows, .int .i64 a0.f_s.f_sizes_0.f_Cols, .int .i64 a0.f_s.f_sizes_1.f_Rows, .int .i64 a0.f_s.f_sizes_1.f_Cols, .int .i64 a0.f_s.f_which, .pointer (some ⟨b0_2, 0, none⟩)] 124, .blk b0_2 [.int .i64 a0.f_s.f_p.f_size.f_Rows, .int .i64 a0.f_s.f_p.f_size.f_Cols, v0_3, .int .i64 a0.f_s.f_p.f_cursor] 126, .own v0_3 80 k_api_Cell a0.f_s.f_p.f_cells] (keyboard_Keyboard_send_m a0 a1) (fun (o : keyboard_Keyboard × Bool × Int) (x : Nat × Value) => .tuple #[.bool o.2.1, .int .i64 o.2.2]) (fun (o : keyboard_Keyboard × Bool × Int) (x : Nat × Value) => [.blk b0_0 [.pointer (some ⟨b0_1, 0, none⟩), .int .i64 o.1.f_l.f_state, .int .i64 o.1.f_l.f_why, .int .i64 o.1.f_l.f_turns, .bool o.1.f_insert, vB o.1.f_last] 97, .blk b0_1 [.int .i64 o.1.f_s.f_sizes_0.f_Rows, .int .i64 o.1.f_s.f_sizes_0.f_Cols, .int .i64 o.1.f_s.f_sizes_1.f_Rows, .int .i64 o.1.f_s.f_sizes_1.f_Cols, .int .i64 o.1.f_s.f_which, .pointer (some ⟨x.1, 0, none⟩)] 124, .blk x.1 [.int .i64 o.1.f_s.f_p.f_size.f_Rows, .int .i64 o.1.f_s.f_p.f_size.f_Cols, x.2, .int .i64 o.1.f_s.f_p.f_cursor] 126, .own x.2 80 k_api_Cell o.1.f_s.f_p.f_cells]) := by
  unfold keyboard_Keyboard_send_m
  refine con (args := [.pointer (some ⟨b0_0, 0, none⟩), vB a1]) Tryz.func50 rfl 28 rfl (.c (.c .n)) rfl fun c hD => ?_
  refine cSeq ?_
  refine cRegion ?_
  refine lRd (dAssign (.c rfl)) rfl rfl ?_
  refine lRd (dAssign (.c rfl)) rfl rfl ?_
  refine lNil ?_
  refine xCode ?_
  refine cSeq ?_
  refine cSeq ?_
  refine cRegion ?_
  refine lRd (dMove (.t (.s (.s .z)))) rfl rfl ?_
  refine lRd (dNil (.t .z)) rfl rfl ?_
  refine lRd (dFld fld_97_1 (by decide) (.t .z) rfl) rfl rfl ?_
  refine lCall fok_94 (.c (.t .z) .n) (lock_Lock_Send_v0_c a0 b0_0 b0_1 b0_2 v0_3) (.c .z (.c .z (.c .z (.c .z .n)))) rfl rfl fun o1 x2 h3 => ?_
  refine lRd (dAssign (.t .z)) rfl rfl ?_
  refine lKeep (.k (.d (.d (.d (.d (.k (.k (.k (.k .n))))))))) ?_
  refine lNil ?_
  refine xCode ?_
  refine cSeq ?_
  refine cRegion ?_
  refine lRd (dMove (.t .z)) rfl rfl ?_
  refine lRd (dNe (.t .z) (.c rfl)) rfl rfl ?_
  refine lKeep (.k (.d (.k (.k (.k (.k (.k .n))))))) ?_
  refine lNil ?_
  refine xCode ?_
  refine cCond (.t .z) (fun h4 => ?_) (fun h4 => ?_)
  · refine cSeq ?_
    refine cRegion ?_
    refine lRd (dMove (.t (.s .z))) rfl rfl ?_
    refine lRdK (dAssign (.c rfl)) (.k (.k (.k (.k (.d (Keep.refl _)))))) rfl rfl ?_
    refine lRdK (dAssign (.t (.s .z))) (.k (.k (.k (.k (.d (Keep.refl _)))))) rfl rfl ?_
    refine lKeep (.k (.k (.d (.d (.d (.k (.k .n))))))) ?_
    refine lNil ?_
    refine xCode ?_
    refine cRet ?_
    exact rDone (rs := [.tmp 4, .tmp 5]) rfl (.t (.s .z) (.t .z .n)) hD (.inl rfl) (b0_2, v0_3) rfl (.c .z (.c .z (.c .z (.c .z .nil))))
  · refine cSkip ?_
    refine xCode ?_
    refine cSeq ?_
    refine cRegion ?_
    refine lRd (dMove (.t (.s (.s (.s (.s .z)))))) rfl rfl ?_
    refine lRd (dMove (.t (.s (.s (.s (.s (.s .z))))))) rfl rfl ?_
    refine lRd (dMove (.t (.s (.s (.s (.s (.s (.s (.s .z))))))))) rfl rfl ?_
    refine lRd (dNil (.t (.s (.s .z)))) rfl rfl ?_
    refine lRd (dFld fld_97_2 (by decide) (.t .z) rfl) rfl rfl ?_
    refine lChU (uStore .z siz_4 rfl (.s (.s (.s (.s .z)))) (.t .z) (.c rfl)) ?_
    refine lRd (dNil (.t (.s (.s (.s .z))))) rfl rfl ?_
    refine lRd (dFld fld_97_3 (by decide) (.t .z) rfl) rfl rfl ?_
    refine lChU (uStore .z siz_5 rfl (.s (.s (.s (.s (.s .z))))) (.t .z) (.t (.s (.s (.s (.s .z)))))) ?_
    refine lKeep (.d (.d (.d (.d (.d (.d (.d (.d (.d (.k (.k (.k (.k .n))))))))))))) ?_
    refine lNil ?_
    refine xCode ?_
    refine cSeq ?_
    refine cSeq ?_
    refine cRegion ?_
    refine lRd (dMove (.t (.s (.s (.s .z))))) rfl rfl ?_
    refine lRd (dEqB (.t .z) (.c (v' := vB 109) rfl)) rfl rfl ?_
    refine lKeep (.k (.d (.k (.k (.k .n))))) ?_
    refine lNil ?_
    refine xCode ?_
    refine cCond (.t .z) (fun h5 => ?_) (fun h5 => ?_)
    · refine cRegion ?_
      refine lRd (dMove (.t (.s (.s (.s .z))))) rfl rfl ?_
      refine lRd (dNil (.t .z)) rfl rfl ?_
      refine lRd (dFld fld_97_0 (by decide) (.t .z) rfl) rfl rfl ?_
      refine lRd (dLoad .z agg_35 (.t .z) rfl) rfl rfl ?_
      refine lCallN fok_74 (.c (.t .z) .n) (screen_Screen_Clear_c o1.1.f_s b0_1 b0_2 v0_3) (.c (.s .z) (.c (.s .z) (.c (.s .z) .n))) rfl fun o6 x7 h8 => ?_
      refine lKeep (.d (.d (.d (.d (.d (.k (.k .n))))))) ?_
      refine lNil ?_
      refine xCode ?_
      refine cSeq ?_
      refine cRegion ?_
      refine lRdK (dAssign (.c rfl)) (.k (.d (Keep.refl _))) rfl rfl ?_
      refine lRdK (dAssign (.c rfl)) (.k (.d (Keep.refl _))) rfl rfl ?_
      refine lNil ?_
      refine xCode ?_
      refine cRet ?_
      exact rDone (rs := [.tmp 4, .tmp 5]) rfl (.t (.s .z) (.t .z .n)) hD (.inl rfl) (x7.1, x7.2) rfl (.c (.s (.s (.s .z))) (.c .z (.c .z (.c .z .nil))))
    · refine cSkip ?_
      refine xCode ?_
      refine cSeq ?_
      refine cRegion ?_
      refine lRdK (dAssign (.c rfl)) (.k (.k (.d (Keep.refl _)))) rfl rfl ?_
      refine lRdK (dAssign (.c rfl)) (.k (.k (.d (Keep.refl _)))) rfl rfl ?_
      refine lKeep (.k (.k .n)) ?_
      refine lNil ?_
      refine xCode ?_
      refine cRet ?_
      exact rDone (rs := [.tmp 4, .tmp 5]) rfl (.t (.s .z) (.t .z .n)) hD (.inl rfl) (b0_2, v0_3) rfl (.c .z (.c .z (.c .z (.c .z .nil))))

-- (*greenscreen/plane.Plane).Cursor
def plane_Plane_Cursor_m (a0 : plane_Plane) : Option (Int) := some a0.f_cursor
theorem plane_Plane_Cursor_c (a0 : plane_Plane) (b0_0 : Nat) (v0_1 : Value) : Con Tryz.prog 68 #[.pointer (some ⟨b0_0, 0, none⟩)] [.blk b0_0 [.int .i64 a0.f_size.f_Rows, .int .i64 a0.f_size.f_Cols, v0_1, .int .i64 a0.f_cursor] 126, .own v0_1 80 k_api_Cell a0.f_cells] (plane_Plane_Cursor_m a0) (fun (o : Int) (x : Unit) => .int .i64 o) (fun (o : Int) (x : Unit) => [.blk b0_0 [.int .i64 a0.f_size.f_Rows, .int .i64 a0.f_size.f_Cols, v0_1, .int .i64 a0.f_cursor] 126, .own v0_1 80 k_api_Cell a0.f_cells]) := by
  unfold plane_Plane_Cursor_m
  refine con (args := [.pointer (some ⟨b0_0, 0, none⟩)]) Tryz.func68 rfl 7 rfl (.c .n) rfl fun c hD => ?_
  refine cSeq ?_
  refine cRegion ?_
  refine lRd (dAssign (.c rfl)) rfl rfl ?_
  refine lNil ?_
  refine xCode ?_
  refine cSeq ?_
  refine cRegion ?_
  refine lRd (dMove (.t (.s .z))) rfl rfl ?_
  refine lRd (dNil (.t .z)) rfl rfl ?_
  refine lRd (dFld fld_126_2 (by decide) (.t .z) rfl) rfl rfl ?_
  refine lRd (dLoad .z agg_3 (.t .z) rfl) rfl rfl ?_
  refine lRdK (dAssign (.t .z)) (.k (.k (.k (.k (.d (Keep.refl _)))))) rfl rfl ?_
  refine lKeep (.k .n) ?_
  refine lNil ?_
  refine xCode ?_
  refine cRet ?_
  exact rDone (rs := [.tmp 2]) rfl (.t .z .n) hD (.inl rfl) () rfl (.c .z (.c .z .nil))

-- (*greenscreen/plane.Plane).has
def plane_Plane_has_m (a0 : plane_Plane) (a1 : Int) : Option (Bool) := (if a1 ≥ 0 then some (decide (a1 < (a0.f_cells.length : Int))) else some false)
theorem plane_Plane_has_c (a0 : plane_Plane) (a1 : Int) (b0_0 : Nat) (v0_1 : Value) : Con Tryz.prog 75 #[.pointer (some ⟨b0_0, 0, none⟩), .int .i64 a1] [.blk b0_0 [.int .i64 a0.f_size.f_Rows, .int .i64 a0.f_size.f_Cols, v0_1, .int .i64 a0.f_cursor] 126, .own v0_1 80 k_api_Cell a0.f_cells] (plane_Plane_has_m a0 a1) (fun (o : Bool) (x : Unit) => .bool o) (fun (o : Bool) (x : Unit) => [.blk b0_0 [.int .i64 a0.f_size.f_Rows, .int .i64 a0.f_size.f_Cols, v0_1, .int .i64 a0.f_cursor] 126, .own v0_1 80 k_api_Cell a0.f_cells]) := by
  unfold plane_Plane_has_m
  refine con (args := [.pointer (some ⟨b0_0, 0, none⟩), .int .i64 a1]) Tryz.func75 rfl 16 rfl (.c (.c .n)) rfl fun c hD => ?_
  refine cSeq ?_
  refine cRegion ?_
  refine lRd (dAssign (.c rfl)) rfl rfl ?_
  refine lNil ?_
  refine xCode ?_
  refine cSeq ?_
  refine cRegion ?_
  refine lRd (dMove (.t (.s (.s .z)))) rfl rfl ?_
  refine lRd (dGe (.t .z) (.c rfl)) rfl rfl ?_
  refine lRd (dMove (.t .z)) rfl rfl ?_
  refine lCase (fun h1 => ?_) (fun h1 => ?_)
  · refine lRdG rfl .z (decide_eq_true h1) (dMove (.t (.s (.s (.s (.s (.s .z))))))) rfl rfl ?_
    refine lRdG rfl (.s .z) (decide_eq_true h1) (dMove (.t (.s (.s (.s (.s (.s .z))))))) rfl rfl ?_
    refine lRdG rfl (.s (.s .z)) (decide_eq_true h1) (dNil (.t .z)) rfl rfl ?_
    refine lRdG rfl (.s (.s (.s .z))) (decide_eq_true h1) (dFld fld_126_1 (by decide) (.t .z) rfl) rfl rfl ?_
    refine lRdG rfl (.s (.s (.s (.s .z)))) (decide_eq_true h1) (dLoad .z agg_37 (.t .z) rfl) rfl rfl ?_
    refine lRdG rfl (.s (.s (.s (.s (.s .z))))) (decide_eq_true h1) (dLen (at_ := #[37]) (slOwn (.s .z)) rfl und_37 (.t .z)) rfl rfl ?_
    refine lRdG rfl (.s (.s (.s (.s (.s (.s .z)))))) (decide_eq_true h1) (dLt (.t (.s (.s (.s (.s (.s .z)))))) (.t .z)) rfl rfl ?_
    refine lRd (dPickT (.t (.s (.s (.s (.s (.s (.s (.s .z)))))))) (decide_eq_true h1) (.t .z)) rfl rfl ?_
    refine lRdK (dAssign (.t .z)) (.k (.k (.k (.k (.k (.k (.k (.k (.k (.k (.k (.d (Keep.refl _))))))))))))) rfl rfl ?_
    refine lKeep (.k .n) ?_
    refine lNil ?_
    refine xCode ?_
    refine cRet ?_
    exact rDone (rs := [.tmp 4]) rfl (.t .z .n) hD (.inl rfl) () rfl (.c .z (.c .z .nil))
  · refine lPass rfl .z (nbT (decide_eq_false h1)) rfl ?_
    refine lPass rfl .z (nbT (decide_eq_false h1)) rfl ?_
    refine lPass rfl .z (nbT (decide_eq_false h1)) rfl ?_
    refine lPass rfl .z (nbT (decide_eq_false h1)) rfl ?_
    refine lPass rfl .z (nbT (decide_eq_false h1)) rfl ?_
    refine lPass rfl .z (nbT (decide_eq_false h1)) rfl ?_
    refine lPass rfl .z (nbT (decide_eq_false h1)) rfl ?_
    refine lRd (dPickF (.t .z) (decide_eq_false h1) (.c rfl)) rfl rfl ?_
    refine lRdK (dAssign (.t .z)) (.k (.k (.k (.k (.d (Keep.refl _)))))) rfl rfl ?_
    refine lKeep (.k .n) ?_
    refine lNil ?_
    refine xCode ?_
    refine cRet ?_
    exact rDone (rs := [.tmp 4]) rfl (.t .z .n) hD (.inl rfl) () rfl (.c .z (.c .z .nil))

-- (*greenscreen/plane.Plane).Point
def plane_Plane_Point_m (a0 : plane_Plane) (a1 : Int) : Option (plane_Plane × Bool) := (plane_Plane_has_m a0 a1).bind fun o1 => (if (!o1) = true then some (a0, false) else some ((⟨a0.f_size, a0.f_cells, a1⟩ : plane_Plane), true))
theorem plane_Plane_Point_c (a0 : plane_Plane) (a1 : Int) (b0_0 : Nat) (v0_1 : Value) : Con Tryz.prog 135 #[.pointer (some ⟨b0_0, 0, none⟩), .int .i64 a1] [.blk b0_0 [.int .i64 a0.f_size.f_Rows, .int .i64 a0.f_size.f_Cols, v0_1, .int .i64 a0.f_cursor] 126, .own v0_1 80 k_api_Cell a0.f_cells] (plane_Plane_Point_m a0 a1) (fun (o : plane_Plane × Bool) (x : Unit) => .bool o.2) (fun (o : plane_Plane × Bool) (x : Unit) => [.blk b0_0 [.int .i64 o.1.f_size.f_Rows, .int .i64 o.1.f_size.f_Cols, v0_1, .int .i64 o.1.f_cursor] 126, .own v0_1 80 k_api_Cell o.1.f_cells]) := by
  unfold plane_Plane_Point_m
  refine con (args := [.pointer (some ⟨b0_0, 0, none⟩), .int .i64 a1]) Tryz.func135 rfl 13 rfl (.c (.c .n)) rfl fun c hD => ?_
  refine cSeq ?_
  refine cRegion ?_
  refine lRd (dAssign (.c rfl)) rfl rfl ?_
  refine lNil ?_
  refine xCode ?_
  refine cSeq ?_
  refine cSeq ?_
  refine cRegion ?_
  refine lRd (dMove (.t (.s .z))) rfl rfl ?_
  refine lRd (dMove (.t (.s (.s (.s .z))))) rfl rfl ?_
  refine lCall fok_75 (.c (.t (.s .z)) (.c (.t .z) .n)) (plane_Plane_has_c a0 a1 b0_0 v0_1) (.c .z (.c .z .n)) rfl rfl fun o1 x2 h3 => ?_
  refine lRd (dNot (.t .z)) rfl rfl ?_
  refine lKeep (.k (.d (.d (.d (.k (.k (.k .n))))))) ?_
  refine lNil ?_
  refine xCode ?_
  refine cCondB (.t .z) (fun h4 => ?_) (fun h4 => ?_)
  · refine cSeq ?_
    refine cRegion ?_
    refine lRdK (dAssign (.c rfl)) (.k (.d (Keep.refl _))) rfl rfl ?_
    refine lKeep (.k (.d (.k (.k .n)))) ?_
    refine lNil ?_
    refine xCode ?_
    refine cRet ?_
    exact rDone (rs := [.tmp 4]) rfl (.t .z .n) hD (.inl rfl) () rfl (.c .z (.c .z .nil))
  · refine cSkip ?_
    refine xCode ?_
    refine cSeq ?_
    refine cRegion ?_
    refine lRd (dMove (.t (.s (.s .z)))) rfl rfl ?_
    refine lRd (dMove (.t (.s (.s (.s (.s .z)))))) rfl rfl ?_
    refine lRd (dNil (.t (.s .z))) rfl rfl ?_
    refine lRd (dFld fld_126_2 (by decide) (.t .z) rfl) rfl rfl ?_
    refine lChU (uStore .z siz_3 rfl (.s (.s (.s .z))) (.t .z) (.t (.s (.s .z)))) ?_
    refine lKeep (.d (.d (.d (.d (.d (.k .n)))))) ?_
    refine lNil ?_
    refine xCode ?_
    refine cSeq ?_
    refine cRegion ?_
    refine lRdK (dAssign (.c rfl)) (.d (Keep.refl _)) rfl rfl ?_
    refine lNil ?_
    refine xCode ?_
    refine cRet ?_
    exact rDone (rs := [.tmp 4]) rfl (.t .z .n) hD (.inl rfl) () rfl (.c .z (.c .z .nil))

-- greenscreen/caret.to
def caret_to_m (a0 : plane_Plane) (a1 : Int) : Option (plane_Plane × Int) := (plane_Plane_Point_m a0 a1).bind fun o1 => some (o1.1, a1)
theorem caret_to_c (a0 : plane_Plane) (a1 : Int) (b0_0 : Nat) (v0_1 : Value) : Con Tryz.prog 141 #[.pointer (some ⟨b0_0, 0, none⟩), .int .i64 a1] [.blk b0_0 [.int .i64 a0.f_size.f_Rows, .int .i64 a0.f_size.f_Cols, v0_1, .int .i64 a0.f_cursor] 126, .own v0_1 80 k_api_Cell a0.f_cells] (caret_to_m a0 a1) (fun (o : plane_Plane × Int) (x : Unit) => .int .i64 o.2) (fun (o : plane_Plane × Int) (x : Unit) => [.blk b0_0 [.int .i64 o.1.f_size.f_Rows, .int .i64 o.1.f_size.f_Cols, v0_1, .int .i64 o.1.f_cursor] 126, .own v0_1 80 k_api_Cell o.1.f_cells]) := by
  unfold caret_to_m
  refine con (args := [.pointer (some ⟨b0_0, 0, none⟩), .int .i64 a1]) Tryz.func141 rfl 9 rfl (.c (.c .n)) rfl fun c hD => ?_
  refine cSeq ?_
  refine cRegion ?_
  refine lRd (dAssign (.c rfl)) rfl rfl ?_
  refine lNil ?_
  refine xCode ?_
  refine cSeq ?_
  refine cRegion ?_
  refine lRd (dMove (.t (.s .z))) rfl rfl ?_
  refine lRd (dMove (.t (.s (.s (.s .z))))) rfl rfl ?_
  refine lCallN fok_135 (.c (.t (.s .z)) (.c (.t .z) .n)) (plane_Plane_Point_c a0 a1 b0_0 v0_1) (.c .z (.c .z .n)) rfl fun o1 x2 h3 => ?_
  refine lKeep (.d (.d (.k (.d (.k .n))))) ?_
  refine lNil ?_
  refine xCode ?_
  refine cSeq ?_
  refine cRegion ?_
  refine lRd (dMove (.t (.s .z))) rfl rfl ?_
  refine lRdK (dAssign (.t .z)) (.k (.d (Keep.refl _))) rfl rfl ?_
  refine lKeep (.k .n) ?_
  refine lNil ?_
  refine xCode ?_
  refine cRet ?_
  exact rDone (rs := [.tmp 4]) rfl (.t .z .n) hD (.inl rfl) () rfl (.c .z (.c .z .nil))

-- (*greenscreen/plane.Plane).Len
def plane_Plane_Len_m (a0 : plane_Plane) : Option (Int) := some (a0.f_cells.length : Int)
theorem plane_Plane_Len_c (a0 : plane_Plane) (b0_0 : Nat) (v0_1 : Value) : Con Tryz.prog 66 #[.pointer (some ⟨b0_0, 0, none⟩)] [.blk b0_0 [.int .i64 a0.f_size.f_Rows, .int .i64 a0.f_size.f_Cols, v0_1, .int .i64 a0.f_cursor] 126, .own v0_1 80 k_api_Cell a0.f_cells] (plane_Plane_Len_m a0) (fun (o : Int) (x : Unit) => .int .i64 o) (fun (o : Int) (x : Unit) => [.blk b0_0 [.int .i64 a0.f_size.f_Rows, .int .i64 a0.f_size.f_Cols, v0_1, .int .i64 a0.f_cursor] 126, .own v0_1 80 k_api_Cell a0.f_cells]) := by
  unfold plane_Plane_Len_m
  refine con (args := [.pointer (some ⟨b0_0, 0, none⟩)]) Tryz.func66 rfl 8 rfl (.c .n) rfl fun c hD => ?_
  refine cSeq ?_
  refine cRegion ?_
  refine lRd (dAssign (.c rfl)) rfl rfl ?_
  refine lNil ?_
  refine xCode ?_
  refine cSeq ?_
  refine cRegion ?_
  refine lRd (dMove (.t (.s .z))) rfl rfl ?_
  refine lRd (dNil (.t .z)) rfl rfl ?_
  refine lRd (dFld fld_126_1 (by decide) (.t .z) rfl) rfl rfl ?_
  refine lRd (dLoad .z agg_37 (.t .z) rfl) rfl rfl ?_
  refine lRd (dLen (at_ := #[37]) (slOwn (.s .z)) rfl und_37 (.t .z)) rfl rfl ?_
  refine lRdK (dAssign (.t .z)) (.k (.k (.k (.k (.k (.d (Keep.refl _))))))) rfl rfl ?_
  refine lKeep (.k .n) ?_
  refine lNil ?_
  refine xCode ?_
  refine cRet ?_
  exact rDone (rs := [.tmp 2]) rfl (.t .z .n) hD (.inl rfl) () rfl (.c .z (.c .z .nil))

-- greenscreen/attr.Protected
def attr_Protected_m (a0 : UInt8) : Option (Bool) := some (decide ((a0 &&& (32 : UInt8)) ≠ (0 : UInt8)))
theorem attr_Protected_c (a0 : UInt8) : Con Tryz.prog 133 #[vB a0] [] (attr_Protected_m a0) (fun (o : Bool) (x : Unit) => .bool o) (fun (o : Bool) (x : Unit) => []) := by
  unfold attr_Protected_m
  refine con (args := [vB a0]) Tryz.func133 rfl 6 rfl (.c .n) rfl fun c hD => ?_
  refine cSeq ?_
  refine cRegion ?_
  refine lRd (dAssign (.c rfl)) rfl rfl ?_
  refine lNil ?_
  refine xCode ?_
  refine cSeq ?_
  refine cRegion ?_
  refine lRd (dMove (.t (.s .z))) rfl rfl ?_
  refine lRd (dAndB (.t .z) (.c (v' := vB 32) rfl)) rfl rfl ?_
  refine lRd (dNeB (.t .z) (.c (v' := vB 0) rfl)) rfl rfl ?_
  refine lRdK (dAssign (.t .z)) (.k (.k (.k (.d (Keep.refl _))))) rfl rfl ?_
  refine lKeep (.k .n) ?_
  refine lNil ?_
  refine xCode ?_
  refine cRet ?_
  exact rDone (rs := [.tmp 2]) rfl (.t .z .n) hD (.inl rfl) () rfl .nil

-- (*greenscreen/plane.Plane).At
def plane_Plane_At_m (a0 : plane_Plane) (a1 : Int) : Option (api_Cell) := (plane_Plane_has_m a0 a1).bind fun o2 => (if (!o2) = true then some (⟨0, false, false, 0, 0⟩ : api_Cell) else (ix a0.f_cells a1).bind fun y6 => some y6)
theorem plane_Plane_At_c (a0 : plane_Plane) (a1 : Int) (b0_0 : Nat) (v0_1 : Value) : Con Tryz.prog 36 #[.pointer (some ⟨b0_0, 0, none⟩), .int .i64 a1] [.blk b0_0 [.int .i64 a0.f_size.f_Rows, .int .i64 a0.f_size.f_Cols, v0_1, .int .i64 a0.f_cursor] 126, .own v0_1 80 k_api_Cell a0.f_cells] (plane_Plane_At_m a0 a1) (fun (o : api_Cell) (x : Unit) => .agg #[vB o.f_Byte, .bool o.f_GE, .bool o.f_Start, vB o.f_Light, vB o.f_Color]) (fun (o : api_Cell) (x : Unit) => [.blk b0_0 [.int .i64 a0.f_size.f_Rows, .int .i64 a0.f_size.f_Cols, v0_1, .int .i64 a0.f_cursor] 126, .own v0_1 80 k_api_Cell a0.f_cells]) := by
  unfold plane_Plane_At_m
  refine con (args := [.pointer (some ⟨b0_0, 0, none⟩), .int .i64 a1]) Tryz.func36 rfl 17 rfl (.c (.c .n)) rfl fun c hD => ?_
  refine cSeq ?_
  refine cRegion ?_
  refine lCh (cAlloc (cs := [vB 0, .bool false, .bool false, vB 0, vB 0]) zer_80 rfl) rfl rfl fun b1 => ?_
  refine lNil ?_
  refine xCode ?_
  refine cSeq ?_
  refine cSeq ?_
  refine cRegion ?_
  refine lRd (dMove (.t (.s .z))) rfl rfl ?_
  refine lRd (dMove (.t (.s (.s (.s .z))))) rfl rfl ?_
  refine lCall fok_75 (.c (.t (.s .z)) (.c (.t .z) .n)) (plane_Plane_has_c a0 a1 b0_0 v0_1) (.c (.s .z) (.c (.s .z) .n)) rfl rfl fun o2 x3 h4 => ?_
  refine lRd (dNot (.t .z)) rfl rfl ?_
  refine lKeep (.k (.d (.d (.d (.k (.k (.k .n))))))) ?_
  refine lNil ?_
  refine xCode ?_
  refine cCondB (.t .z) (fun h5 => ?_) (fun h5 => ?_)
  · refine cSeq ?_
    refine cRegion ?_
    refine lRd (dBuild (cs := [vB 0, .bool false, .bool false, vB 0, vB 0]) zer_80 rfl plc_80 .n rfl) rfl rfl ?_
    refine lChU (uStoreA (us := [vB 0, .bool false, .bool false, vB 0, vB 0]) (cs' := [vB 0, .bool false, .bool false, vB 0, vB 0]) (.s (.s .z)) siz_80 rfl (by intro u hu; simp only [List.mem_cons, List.not_mem_nil, or_false] at hu; rcases hu with rfl | rfl | rfl | rfl | rfl <;> first | rfl | assumption) rfl (by simp) (.t (.s (.s .z))) (.t .z)) ?_
    refine lKeep (.d (.d (.k (.k (.k .n))))) ?_
    refine lNil ?_
    refine xCode ?_
    refine cRet ?_
    exact rDone (rs := [.cell 4 80]) rfl (.a .z (.s (.s .z)) agg_80 siz_80 .n) hD (.inl rfl) () rfl (.c .z (.c .z .nil))
  · refine cSkip ?_
    refine xCode ?_
    refine cSeq ?_
    refine cRegion ?_
    refine lRd (dMove (.t (.s (.s .z)))) rfl rfl ?_
    refine lRd (dNil (.t .z)) rfl rfl ?_
    refine lRd (dFld fld_126_1 (by decide) (.t .z) rfl) rfl rfl ?_
    refine lRd (dLoad .z agg_37 (.t .z) rfl) rfl rfl ?_
    refine lRd (dMove (.t (.s (.s (.s (.s (.s (.s (.s .z))))))))) rfl rfl ?_
    refine lIx fun y6 h7 h8 => ?_
    refine lRd (dIxAddr (slOwn (.s .z)) und_37 siz_80 (.t (.s .z)) (.t .z) h7 h8) rfl rfl ?_
    refine lRd (dLoadEA (us := [vB y6.f_Byte, .bool y6.f_GE, .bool y6.f_Start, vB y6.f_Light, vB y6.f_Color]) (slOwn (.s .z)) agg_80 siz_80 rfl (.t .z) h8 (fun _ _ h => by cases h; rfl)) rfl rfl ?_
    refine lChU (uStoreA (us := [vB y6.f_Byte, .bool y6.f_GE, .bool y6.f_Start, vB y6.f_Light, vB y6.f_Color]) (cs' := [vB y6.f_Byte, .bool y6.f_GE, .bool y6.f_Start, vB y6.f_Light, vB y6.f_Color]) (.s (.s .z)) siz_80 rfl (by intro u hu; simp only [List.mem_cons, List.not_mem_nil, or_false] at hu; rcases hu with rfl | rfl | rfl | rfl | rfl <;> first | rfl | assumption) rfl (by simp) (.t (.s (.s (.s (.s (.s (.s (.s (.s .z))))))))) (.t .z)) ?_
    refine lKeep (.d (.d (.d (.d (.d (.d (.d (.d (.k .n))))))))) ?_
    refine lNil ?_
    refine xCode ?_
    refine cRet ?_
    exact rDone (rs := [.cell 4 80]) rfl (.a .z (.s (.s .z)) agg_80 siz_80 .n) hD (.inl rfl) () rfl (.c .z (.c .z .nil))

-- (*greenscreen/plane.Plane).Size
def plane_Plane_Size_m (a0 : plane_Plane) : Option (api_Size) := some a0.f_size
theorem plane_Plane_Size_c (a0 : plane_Plane) (b0_0 : Nat) (v0_1 : Value) : Con Tryz.prog 147 #[.pointer (some ⟨b0_0, 0, none⟩)] [.blk b0_0 [.int .i64 a0.f_size.f_Rows, .int .i64 a0.f_size.f_Cols, v0_1, .int .i64 a0.f_cursor] 126, .own v0_1 80 k_api_Cell a0.f_cells] (plane_Plane_Size_m a0) (fun (o : api_Size) (x : Unit) => .agg #[.int .i64 o.f_Rows, .int .i64 o.f_Cols]) (fun (o : api_Size) (x : Unit) => [.blk b0_0 [.int .i64 a0.f_size.f_Rows, .int .i64 a0.f_size.f_Cols, v0_1, .int .i64 a0.f_cursor] 126, .own v0_1 80 k_api_Cell a0.f_cells]) := by
  unfold plane_Plane_Size_m
  refine con (args := [.pointer (some ⟨b0_0, 0, none⟩)]) Tryz.func147 rfl 7 rfl (.c .n) rfl fun c hD => ?_
  refine cSeq ?_
  refine cRegion ?_
  refine lCh (cAlloc (cs := [.int .i64 0, .int .i64 0]) zer_33 rfl) rfl rfl fun b1 => ?_
  refine lNil ?_
  refine xCode ?_
  refine cSeq ?_
  refine cRegion ?_
  refine lRd (dMove (.t (.s .z))) rfl rfl ?_
  refine lRd (dNil (.t .z)) rfl rfl ?_
  refine lRd (dFld fld_126_0 (by decide) (.t .z) rfl) rfl rfl ?_
  refine lRd (dLoadA (us := [.int .i64 a0.f_size.f_Rows, .int .i64 a0.f_size.f_Cols]) (.s .z) agg_33 siz_33 rfl (.t .z) rfl) rfl rfl ?_
  refine lChU (uStoreA (us := [.int .i64 a0.f_size.f_Rows, .int .i64 a0.f_size.f_Cols]) (cs' := [.int .i64 a0.f_size.f_Rows, .int .i64 a0.f_size.f_Cols]) .z siz_33 rfl (by intro u hu; simp only [List.mem_cons, List.not_mem_nil, or_false] at hu; rcases hu with rfl | rfl <;> first | rfl | assumption) rfl (by simp) (.t (.s (.s (.s (.s .z))))) (.t .z)) ?_
  refine lKeep (.d (.d (.d (.d (.k .n))))) ?_
  refine lNil ?_
  refine xCode ?_
  refine cRet ?_
  exact rDone (rs := [.cell 2 33]) rfl (.a .z .z agg_33 siz_33 .n) hD (.inl rfl) () rfl (.c (.s .z) (.c (.s .z) .nil))

-- greenscreen/addr.Move
def addr_Move_m (a0 : api_Size) (a1 : Int) (a2 : Int) : Option (Int) := (addr_Cells_m a0).bind fun o2 => (if o2 = 0 then some 0 else (if o2 ≠ 0 then (if o2 ≠ 0 then (if o2 ≠ 0 then (if o2 ≠ 0 then some (Int.tmod (w64 ((Int.tmod (w64 ((Int.tmod a1 o2) + (Int.tmod a2 o2))) o2) + o2)) o2) else none) else none) else none) else none))
theorem addr_Move_c (a0 : api_Size) (a1 : Int) (a2 : Int) : Con Tryz.prog 176 #[.agg #[.int .i64 a0.f_Rows, .int .i64 a0.f_Cols], .int .i64 a1, .int .i64 a2] [] (addr_Move_m a0 a1 a2) (fun (o : Int) (x : Unit) => .int .i64 o) (fun (o : Int) (x : Unit) => []) := by
  unfold addr_Move_m
  refine con (args := [.agg #[.int .i64 a0.f_Rows, .int .i64 a0.f_Cols], .int .i64 a1, .int .i64 a2]) Tryz.func176 rfl 25 rfl (.c (.c (.c .n))) rfl fun c hD => ?_
  refine cSeq ?_
  refine cRegion ?_
  refine lCh (cBox (cs := [.int .i64 a0.f_Rows, .int .i64 a0.f_Cols]) (.t .z) rfl) rfl rfl fun b1 => ?_
  refine lRd (dAssign (.c rfl)) rfl rfl ?_
  refine lKeep (.k (.k (.d (.k (.k .n))))) ?_
  refine lNil ?_
  refine xCode ?_
  refine cSeq ?_
  refine cRegion ?_
  refine lRd (dLoadA (us := [.int .i64 a0.f_Rows, .int .i64 a0.f_Cols]) .z agg_33 siz_33 rfl (.t (.s .z)) rfl) rfl rfl ?_
  refine lCall fok_73 (.c (.t .z) .n) (addr_Cells_c a0) .n rfl rfl fun o2 x3 h4 => ?_
  refine lRd (dAssign (.t .z)) rfl rfl ?_
  refine lKeep (.k (.d (.d (.k (.d (.k (.k .n))))))) ?_
  refine lNil ?_
  refine xCode ?_
  refine cSeq ?_
  refine cSeq ?_
  refine cRegion ?_
  refine lRd (dMove (.t .z)) rfl rfl ?_
  refine lRd (dEq (.t .z) (.c rfl)) rfl rfl ?_
  refine lKeep (.k (.d (.k (.k (.k (.k .n)))))) ?_
  refine lNil ?_
  refine xCode ?_
  refine cCond (.t .z) (fun h5 => ?_) (fun h5 => ?_)
  · refine cSeq ?_
    refine cRegion ?_
    refine lRdK (dAssign (.c rfl)) (.k (.k (.d (Keep.refl _)))) rfl rfl ?_
    refine lKeep (.k (.d (.k (.k (.k .n))))) ?_
    refine lNil ?_
    refine xCode ?_
    refine cRet ?_
    exact rDone (rs := [.tmp 6]) rfl (.t .z .n) hD (.inl rfl) () rfl .nil
  · refine cSkip ?_
    refine xCode ?_
    refine cSeq ?_
    refine cRegionM [] [(0, .early), (1, .early), (2, .early), (3, .early), (4, .early), (5, .early), (6, .early), (7, .early), (8, .early), (9, .early), (10, .early), (11, .early), (12, .early), (13, .early)] mixed (by kernel_rfl) (.c .z .nil) (.c .n) ?_
    refine mRd rfl rfl (fun _ _ _ => dMove (.t (.s (.s (.s .z))))) rfl rfl ?_
    refine mRd rfl rfl (fun _ _ _ => dMove (.t (.s (.s .z)))) rfl rfl ?_
    refine mGuard fun h6 => ?_
    refine mRd rfl rfl (fun _ _ _ => dRem (.t (.s .z)) (.t .z) h6) rfl rfl ?_
    refine mRd rfl rfl (fun _ _ _ => dMove (.t (.s (.s (.s (.s (.s (.s (.s .z))))))))) rfl rfl ?_
    refine mRd rfl rfl (fun _ _ _ => dMove (.t (.s (.s (.s (.s (.s .z))))))) rfl rfl ?_
    refine mGuard fun h7 => ?_
    refine mRd rfl rfl (fun _ _ _ => dRem (.t (.s .z)) (.t .z) h7) rfl rfl ?_
    refine mRd rfl rfl (fun _ _ _ => dAddI (.t (.s (.s (.s .z)))) (.t .z)) rfl rfl ?_
    refine mRd rfl rfl (fun _ _ _ => dMove (.t (.s (.s (.s (.s (.s (.s (.s (.s .z)))))))))) rfl rfl ?_
    refine mGuard fun h8 => ?_
    refine mRd rfl rfl (fun _ _ _ => dRem (.t (.s .z)) (.t .z) h8) rfl rfl ?_
    refine mRd rfl rfl (fun _ _ _ => dMove (.t (.s (.s (.s (.s (.s (.s (.s (.s (.s (.s .z)))))))))))) rfl rfl ?_
    refine mRd rfl rfl (fun _ _ _ => dAddI (.t (.s .z)) (.t .z)) rfl rfl ?_
    refine mRd rfl rfl (fun _ _ _ => dMove (.t (.s (.s (.s (.s (.s (.s (.s (.s (.s (.s (.s (.s .z)))))))))))))) rfl rfl ?_
    refine mGuard fun h9 => ?_
    refine mRd rfl rfl (fun _ _ _ => dRem (.t (.s .z)) (.t .z) h9) rfl rfl ?_
    refine mRdK rfl rfl (fun _ _ _ => dAssign (.t .z)) (.k (.k (.k (.k (.k (.k (.k (.k (.k (.k (.k (.k (.k (.k (.k (.d (Keep.refl _))))))))))))))))) rfl rfl ?_
    refine mKeep (.k .n) ?_
    refine mNil ?_
    refine xCode ?_
    refine cRet ?_
    exact rDone (rs := [.tmp 6]) rfl (.t .z .n) hD (.inl rfl) () rfl .nil

-- greenscreen/field.look
def field_look_l1 (K : Nat) (a0 : plane_Plane) (a1 : Int) (a2 : Int) (o8 : (Int)) : Nat → (Int) → Option (Sum (Unit) (Int))
  | 0, _ => none
  | n + 1, s11 => (if s11 < o8 then (plane_Plane_Size_m a0).bind fun o17 => (addr_Move_m o17 a1 (w64 (s11 * a2))).bind fun o20 => (plane_Plane_At_m a0 o20).bind fun o23 => (if o23.f_Start = true then some (Sum.inr o20) else (field_look_l1 K a0 a1 a2 o8 n) (w64 (s11 + 1))) else some (Sum.inl ()))
def field_look_m (K : Nat) (a0 : plane_Plane) (a1 : Int) (a2 : Int) : Option (Int) := ((if a1 < 0 then some true else (plane_Plane_Len_m a0).bind fun o2 => some (decide (a1 ≥ o2)))).bind fun (s5 : Bool) => (if s5 = true then some (-1) else (plane_Plane_Len_m a0).bind fun o8 => (field_look_l1 K a0 a1 a2 o8 K 0).bind (onS fun (s27 : Unit) => some (-1)))
theorem field_look_c (K : Nat) (a0 : plane_Plane) (a1 : Int) (a2 : Int) (b0_0 : Nat) (v0_1 : Value) : Con Tryz.prog 217 #[.pointer (some ⟨b0_0, 0, none⟩), .int .i64 a1, .int .i64 a2] [.blk b0_0 [.int .i64 a0.f_size.f_Rows, .int .i64 a0.f_size.f_Cols, v0_1, .int .i64 a0.f_cursor] 126, .own v0_1 80 k_api_Cell a0.f_cells] (field_look_m K a0 a1 a2) (fun (o : Int) (x : Unit) => .int .i64 o) (fun (o : Int) (x : Unit) => [.blk b0_0 [.int .i64 a0.f_size.f_Rows, .int .i64 a0.f_size.f_Cols, v0_1, .int .i64 a0.f_cursor] 126, .own v0_1 80 k_api_Cell a0.f_cells]) := by
  unfold field_look_m
  refine con (args := [.pointer (some ⟨b0_0, 0, none⟩), .int .i64 a1, .int .i64 a2]) Tryz.func217 rfl 35 rfl (.c (.c (.c .n))) rfl fun c hD => ?_
  refine cSeq ?_
  refine cRegion ?_
  refine lRd (dAssign (.c rfl)) rfl rfl ?_
  refine lNil ?_
  refine xCode ?_
  refine cSeq ?_
  refine cSeq ?_
  refine cJoin (S := Bool) (X := Unit) (fun (s : Bool) (x : Unit) => [(16, .bool s), (6, .int .i64 0), (0, .pointer (some ⟨b0_0, 0, none⟩)), (1, .int .i64 a1), (2, .int .i64 a2)]) (fun (s : Bool) (x : Unit) => [.blk b0_0 [.int .i64 a0.f_size.f_Rows, .int .i64 a0.f_size.f_Cols, v0_1, .int .i64 a0.f_cursor] 126, .own v0_1 80 k_api_Cell a0.f_cells]) ?_ (fun s5 x6 => ?_)
  · refine cRegion ?_
    refine lRd (dMove (.t (.s (.s .z)))) rfl rfl ?_
    refine lRd (dLt (.t .z) (.c rfl)) rfl rfl ?_
    refine lRd (dMove (.t .z)) rfl rfl ?_
    refine lCase (fun h1 => ?_) (fun h1 => ?_)
    · refine lPass rfl .z (nbF (decide_eq_true h1)) rfl ?_
      refine lPass rfl .z (nbF (decide_eq_true h1)) rfl ?_
      refine lPass rfl .z (nbF (decide_eq_true h1)) rfl ?_
      refine lPass rfl .z (nbF (decide_eq_true h1)) rfl ?_
      refine lRd (dPickT (.t .z) (decide_eq_true h1) (.c rfl)) rfl rfl ?_
      refine lKeep (.k (.d (.d (.d (.k (.k (.k (.k .n)))))))) ?_
      refine lNil ?_
      exact xJoin true () (.c .z (.c (.s .z) (.c (.s (.s .z)) (.c (.s (.s (.s .z))) (.c (.s (.s (.s (.s .z)))) .n))))) (.c .z (.c .z .nil))
    · refine lRdG rfl .z (decide_eq_false h1) (dMove (.t (.s (.s (.s (.s (.s .z))))))) rfl rfl ?_
      refine lRdG rfl (.s .z) (decide_eq_false h1) (dMove (.t (.s (.s (.s (.s (.s .z))))))) rfl rfl ?_
      refine lCallG rfl (.s (.s .z)) (decide_eq_false h1) fok_66 (.c (.t .z) .n) (plane_Plane_Len_c a0 b0_0 v0_1) (.c .z (.c .z .n)) rfl rfl fun o2 x3 h4 => ?_
      refine lRdG rfl (.s (.s (.s .z))) (decide_eq_false h1) (dGe (.t (.s (.s .z))) (.t .z)) rfl rfl ?_
      refine lRd (dPickF (.t (.s (.s (.s (.s .z))))) (decide_eq_false h1) (.t .z)) rfl rfl ?_
      refine lKeep (.k (.d (.d (.d (.d (.d (.d (.d (.k (.k (.k (.k .n)))))))))))) ?_
      refine lNil ?_
      exact xJoin (decide (a1 ≥ o2)) () (.c .z (.c (.s .z) (.c (.s (.s .z)) (.c (.s (.s (.s .z))) (.c (.s (.s (.s (.s .z)))) .n))))) (.c .z (.c .z .nil))
  · refine xCode ?_
    refine cCondB (.t .z) (fun h7 => ?_) (fun h7 => ?_)
    · refine cSeq ?_
      refine cRegion ?_
      refine lRdK (dAssign (.c rfl)) (.k (.d (Keep.refl _))) rfl rfl ?_
      refine lKeep (.k (.d (.k (.k (.k .n))))) ?_
      refine lNil ?_
      refine xCode ?_
      refine cRet ?_
      exact rDone (rs := [.tmp 6]) rfl (.t .z .n) hD (.inl rfl) () rfl (.c .z (.c .z .nil))
    · refine cSkip ?_
      refine xCode ?_
      refine cSeq ?_
      refine cSeq ?_
      refine cRegion ?_
      refine lRd (dMove (.t (.s (.s .z)))) rfl rfl ?_
      refine lCall fok_66 (.c (.t .z) .n) (plane_Plane_Len_c a0 b0_0 v0_1) (.c .z (.c .z .n)) rfl rfl fun o8 x9 h10 => ?_
      refine lRd (dMove (.c rfl)) rfl rfl ?_
      refine lKeep (.k (.k (.d (.d (.k (.k (.k (.k .n)))))))) ?_
      refine lNil ?_
      refine xCode ?_
      refine cLoopR (S := Int) (X := Unit) (S' := Unit) (X' := Unit) (field_look_l1 K a0 a1 a2 o8) (fun (s : Int) (x : Unit) => [(19, .int .i64 s), (18, .int .i64 o8), (6, .int .i64 0), (0, .pointer (some ⟨b0_0, 0, none⟩)), (1, .int .i64 a1), (2, .int .i64 a2)]) (fun (s : Int) (x : Unit) => [.blk b0_0 [.int .i64 a0.f_size.f_Rows, .int .i64 a0.f_size.f_Cols, v0_1, .int .i64 a0.f_cursor] 126, .own v0_1 80 k_api_Cell a0.f_cells]) (fun (s : Unit) (x : Unit) => [(6, .int .i64 0)]) (fun (s : Unit) (x : Unit) => [.blk b0_0 [.int .i64 a0.f_size.f_Rows, .int .i64 a0.f_size.f_Cols, v0_1, .int .i64 a0.f_cursor] 126, .own v0_1 80 k_api_Cell a0.f_cells]) K 0 () (.c .z (.c (.s .z) (.c (.s (.s .z)) (.c (.s (.s (.s .z))) (.c (.s (.s (.s (.s .z)))) (.c (.s (.s (.s (.s (.s .z))))) .n)))))) (.c .z (.c .z .nil)) (fun _ => rfl) (fun n13 I14 h15 s11 x12 => ?_) (fun s27 x28 => ?_)
      · rw [field_look_l1]
        refine cSeq ?_
        refine cRegion ?_
        refine lRd (dLt (.t .z) (.t (.s .z))) rfl rfl ?_
        refine lNil ?_
        refine xCode ?_
        refine cSeq ?_
        refine cCond (.t .z) (fun h16 => ?_) (fun h16 => ?_)
        · refine cSkip ?_
          refine xCode ?_
          refine cSeq ?_
          refine cBlock ?_
          refine cSeq ?_
          refine cRegion ?_
          refine lRd (dMove (.t (.s .z))) rfl rfl ?_
          refine lRd (dAssign (.t .z)) rfl rfl ?_
          refine lNil ?_
          refine xCode ?_
          refine cSeq ?_
          refine cRegion ?_
          refine lRd (dMove (.t (.s (.s (.s (.s (.s (.s .z)))))))) rfl rfl ?_
          refine lCall fok_147 (.c (.t .z) .n) (plane_Plane_Size_c a0 b0_0 v0_1) (.c .z (.c .z .n)) rfl rfl fun o17 x18 h19 => ?_
          refine lRd (dMove (.t (.s (.s (.s (.s (.s (.s (.s (.s (.s .z))))))))))) rfl rfl ?_
          refine lRd (dMove (.t (.s (.s (.s .z))))) rfl rfl ?_
          refine lRd (dMove (.t (.s (.s (.s (.s (.s (.s (.s (.s (.s (.s (.s (.s .z)))))))))))))) rfl rfl ?_
          refine lRd (dMulI (.t (.s .z)) (.t .z)) rfl rfl ?_
          refine lCall fok_176 (.c (.t (.s (.s (.s (.s .z))))) (.c (.t (.s (.s (.s .z)))) (.c (.t .z) .n))) (addr_Move_c o17 a1 (w64 (s11 * a2))) .n rfl rfl fun o20 x21 h22 => ?_
          refine lRd (dAssign (.t .z)) rfl rfl ?_
          refine lNil ?_
          refine xCode ?_
          refine cSeq ?_
          refine cRegion ?_
          refine lRd (dMove (.t (.s (.s (.s (.s (.s (.s (.s (.s (.s (.s (.s (.s (.s (.s .z)))))))))))))))) rfl rfl ?_
          refine lRd (dMove (.t (.s .z))) rfl rfl ?_
          refine lCall fok_36 (.c (.t (.s .z)) (.c (.t .z) .n)) (plane_Plane_At_c a0 o20 b0_0 v0_1) (.c .z (.c .z .n)) rfl rfl fun o23 x24 h25 => ?_
          refine lRd (dField (u := .bool o23.f_Start) fld_80_2 (.t .z) rfl) rfl rfl ?_
          refine lNil ?_
          refine xCode ?_
          refine cCondB (.t .z) (fun h26 => ?_) (fun h26 => ?_)
          · refine cSeq ?_
            refine cRegion ?_
            refine lRd (dMove (.t (.s (.s (.s (.s .z)))))) rfl rfl ?_
            refine lRdK (dAssign (.t .z)) (.k (.k (.k (.k (.k (.k (.k (.k (.k (.k (.k (.k (.k (.k (.k (.k (.k (.k (.d (Keep.refl _)))))))))))))))))))) rfl rfl ?_
            refine lNil ?_
            refine xCode ?_
            refine cRet ?_
            refine rInner ?_
            exact rDone (rs := [.tmp 6]) rfl (.t .z .n) hD (.inl rfl) () rfl (.c .z (.c .z .nil))
          · refine cSkip ?_
            refine xBlock ?_
            refine xCode ?_
            refine cRegion ?_
            refine lRd (dAddI (.t (.s (.s (.s (.s (.s (.s (.s (.s (.s (.s (.s (.s (.s (.s (.s .z)))))))))))))))) (.c rfl)) rfl rfl ?_
            refine lRdK (dMove (.t .z)) (.k (.k (.k (.k (.k (.k (.k (.k (.k (.k (.k (.k (.k (.k (.k (.k (.d (Keep.refl _)))))))))))))))))) rfl rfl ?_
            refine lNil ?_
            exact xRound h15 (w64 (s11 + 1)) () (.c .z (.c (.s (.s (.s (.s (.s (.s (.s (.s (.s (.s (.s (.s (.s (.s (.s (.s (.s .z))))))))))))))))) (.c (.s (.s (.s (.s (.s (.s (.s (.s (.s (.s (.s (.s (.s (.s (.s (.s (.s (.s .z)))))))))))))))))) (.c (.s (.s (.s (.s (.s (.s (.s (.s (.s (.s (.s (.s (.s (.s (.s (.s (.s (.s (.s .z))))))))))))))))))) (.c (.s (.s (.s (.s (.s (.s (.s (.s (.s (.s (.s (.s (.s (.s (.s (.s (.s (.s (.s (.s .z)))))))))))))))))))) (.c (.s (.s (.s (.s (.s (.s (.s (.s (.s (.s (.s (.s (.s (.s (.s (.s (.s (.s (.s (.s (.s .z))))))))))))))))))))) .n)))))) (.c .z (.c .z .nil))
        · refine cExit ?_
          refine xOver ?_
          refine xOverF ?_
          exact xBreakR () () (.c (.s (.s (.s .z))) .n) (.c .z (.c .z .nil))
      · refine xCode ?_
        refine cSeq ?_
        refine cRegion ?_
        refine lRdK (dAssign (.c rfl)) (.d (Keep.refl _)) rfl rfl ?_
        refine lNil ?_
        refine xCode ?_
        refine cRet ?_
        exact rDone (rs := [.tmp 6]) rfl (.t .z .n) hD (.inl rfl) () rfl (.c .z (.c .z .nil))

-- greenscreen/field.After
def field_After_m (K : Nat) (a0 : plane_Plane) (a1 : Int) : Option (Int) := ((if a1 < 0 then some true else (plane_Plane_Len_m a0).bind fun o2 => some (decide (a1 ≥ o2)))).bind fun (s5 : Bool) => (if s5 = true then some (-1) else (plane_Plane_Size_m a0).bind fun o8 => (addr_Move_m o8 a1 1).bind fun o11 => (field_look_m K a0 o11 1).bind fun o14 => some o14)
theorem field_After_c (K : Nat) (a0 : plane_Plane) (a1 : Int) (b0_0 : Nat) (v0_1 : Value) : Con Tryz.prog 199 #[.pointer (some ⟨b0_0, 0, none⟩), .int .i64 a1] [.blk b0_0 [.int .i64 a0.f_size.f_Rows, .int .i64 a0.f_size.f_Cols, v0_1, .int .i64 a0.f_cursor] 126, .own v0_1 80 k_api_Cell a0.f_cells] (field_After_m K a0 a1) (fun (o : Int) (x : Unit) => .int .i64 o) (fun (o : Int) (x : Unit) => [.blk b0_0 [.int .i64 a0.f_size.f_Rows, .int .i64 a0.f_size.f_Cols, v0_1, .int .i64 a0.f_cursor] 126, .own v0_1 80 k_api_Cell a0.f_cells]) := by
  unfold field_After_m
  refine con (args := [.pointer (some ⟨b0_0, 0, none⟩), .int .i64 a1]) Tryz.func199 rfl 19 rfl (.c (.c .n)) rfl fun c hD => ?_
  refine cSeq ?_
  refine cRegion ?_
  refine lRd (dAssign (.c rfl)) rfl rfl ?_
  refine lNil ?_
  refine xCode ?_
  refine cSeq ?_
  refine cSeq ?_
  refine cJoin (S := Bool) (X := Unit) (fun (s : Bool) (x : Unit) => [(12, .bool s), (4, .int .i64 0), (0, .pointer (some ⟨b0_0, 0, none⟩)), (1, .int .i64 a1)]) (fun (s : Bool) (x : Unit) => [.blk b0_0 [.int .i64 a0.f_size.f_Rows, .int .i64 a0.f_size.f_Cols, v0_1, .int .i64 a0.f_cursor] 126, .own v0_1 80 k_api_Cell a0.f_cells]) ?_ (fun s5 x6 => ?_)
  · refine cRegion ?_
    refine lRd (dMove (.t (.s (.s .z)))) rfl rfl ?_
    refine lRd (dLt (.t .z) (.c rfl)) rfl rfl ?_
    refine lRd (dMove (.t .z)) rfl rfl ?_
    refine lCase (fun h1 => ?_) (fun h1 => ?_)
    · refine lPass rfl .z (nbF (decide_eq_true h1)) rfl ?_
      refine lPass rfl .z (nbF (decide_eq_true h1)) rfl ?_
      refine lPass rfl .z (nbF (decide_eq_true h1)) rfl ?_
      refine lPass rfl .z (nbF (decide_eq_true h1)) rfl ?_
      refine lRd (dPickT (.t .z) (decide_eq_true h1) (.c rfl)) rfl rfl ?_
      refine lKeep (.k (.d (.d (.d (.k (.k (.k .n))))))) ?_
      refine lNil ?_
      exact xJoin true () (.c .z (.c (.s .z) (.c (.s (.s .z)) (.c (.s (.s (.s .z))) .n)))) (.c .z (.c .z .nil))
    · refine lRdG rfl .z (decide_eq_false h1) (dMove (.t (.s (.s (.s (.s (.s .z))))))) rfl rfl ?_
      refine lRdG rfl (.s .z) (decide_eq_false h1) (dMove (.t (.s (.s (.s (.s (.s .z))))))) rfl rfl ?_
      refine lCallG rfl (.s (.s .z)) (decide_eq_false h1) fok_66 (.c (.t .z) .n) (plane_Plane_Len_c a0 b0_0 v0_1) (.c .z (.c .z .n)) rfl rfl fun o2 x3 h4 => ?_
      refine lRdG rfl (.s (.s (.s .z))) (decide_eq_false h1) (dGe (.t (.s (.s .z))) (.t .z)) rfl rfl ?_
      refine lRd (dPickF (.t (.s (.s (.s (.s .z))))) (decide_eq_false h1) (.t .z)) rfl rfl ?_
      refine lKeep (.k (.d (.d (.d (.d (.d (.d (.d (.k (.k (.k .n))))))))))) ?_
      refine lNil ?_
      exact xJoin (decide (a1 ≥ o2)) () (.c .z (.c (.s .z) (.c (.s (.s .z)) (.c (.s (.s (.s .z))) .n)))) (.c .z (.c .z .nil))
  · refine xCode ?_
    refine cCondB (.t .z) (fun h7 => ?_) (fun h7 => ?_)
    · refine cSeq ?_
      refine cRegion ?_
      refine lRdK (dAssign (.c rfl)) (.k (.d (Keep.refl _))) rfl rfl ?_
      refine lKeep (.k (.d (.k (.k .n)))) ?_
      refine lNil ?_
      refine xCode ?_
      refine cRet ?_
      exact rDone (rs := [.tmp 4]) rfl (.t .z .n) hD (.inl rfl) () rfl (.c .z (.c .z .nil))
    · refine cSkip ?_
      refine xCode ?_
      refine cSeq ?_
      refine cRegion ?_
      refine lRd (dMove (.t (.s (.s .z)))) rfl rfl ?_
      refine lRd (dMove (.t (.s (.s (.s .z))))) rfl rfl ?_
      refine lCall fok_147 (.c (.t .z) .n) (plane_Plane_Size_c a0 b0_0 v0_1) (.c .z (.c .z .n)) rfl rfl fun o8 x9 h10 => ?_
      refine lRd (dMove (.t (.s (.s (.s (.s (.s (.s .z)))))))) rfl rfl ?_
      refine lCall fok_176 (.c (.t (.s .z)) (.c (.t .z) (.c (.c rfl) .n))) (addr_Move_c o8 a1 1) .n rfl rfl fun o11 x12 h13 => ?_
      refine lCall fok_217 (.c (.t (.s (.s (.s (.s .z))))) (.c (.t .z) (.c (.c rfl) .n))) (field_look_c K a0 o11 1 b0_0 v0_1) (.c .z (.c .z .n)) rfl rfl fun o14 x15 h16 => ?_
      refine lRdK (dAssign (.t .z)) (.k (.k (.k (.k (.k (.k (.k (.d (Keep.refl _))))))))) rfl rfl ?_
      refine lKeep (.k .n) ?_
      refine lNil ?_
      refine xCode ?_
      refine cRet ?_
      exact rDone (rs := [.tmp 4]) rfl (.t .z .n) hD (.inl rfl) () rfl (.c .z (.c .z .nil))

-- greenscreen/field.at
def field_at_m (K : Nat) (a0 : plane_Plane) (a1 : Int) : Option (field_Field) := (field_After_m K a0 a1).bind fun o2 => ((if (w64 ((w64 (o2 - a1)) - 1)) < 0 then (plane_Plane_Len_m a0).bind fun o6 => some (w64 ((w64 ((w64 (o2 - a1)) - 1)) + o6)) else some (w64 ((w64 (o2 - a1)) - 1)))).bind fun (s9 : Int) => (plane_Plane_At_m a0 a1).bind fun o11 => some (⟨a1, s9, o11.f_Byte &&& (63 : UInt8)⟩ : field_Field)
theorem field_at_c (K : Nat) (a0 : plane_Plane) (a1 : Int) (b0_0 : Nat) (v0_1 : Value) : Con Tryz.prog 174 #[.pointer (some ⟨b0_0, 0, none⟩), .int .i64 a1] [.blk b0_0 [.int .i64 a0.f_size.f_Rows, .int .i64 a0.f_size.f_Cols, v0_1, .int .i64 a0.f_cursor] 126, .own v0_1 80 k_api_Cell a0.f_cells] (field_at_m K a0 a1) (fun (o : field_Field) (x : Unit) => .agg #[.int .i64 o.f_Start, .int .i64 o.f_Len, vB o.f_Attr]) (fun (o : field_Field) (x : Unit) => [.blk b0_0 [.int .i64 a0.f_size.f_Rows, .int .i64 a0.f_size.f_Cols, v0_1, .int .i64 a0.f_cursor] 126, .own v0_1 80 k_api_Cell a0.f_cells]) := by
  unfold field_at_m
  refine con (args := [.pointer (some ⟨b0_0, 0, none⟩), .int .i64 a1]) Tryz.func174 rfl 26 rfl (.c (.c .n)) rfl fun c hD => ?_
  refine cSeq ?_
  refine cRegion ?_
  refine lCh (cAlloc (cs := [.int .i64 0, .int .i64 0, vB 0]) zer_193 rfl) rfl rfl fun b1 => ?_
  refine lNil ?_
  refine xCode ?_
  refine cSeq ?_
  refine cRegion ?_
  refine lRd (dMove (.t (.s .z))) rfl rfl ?_
  refine lRd (dMove (.t (.s (.s (.s .z))))) rfl rfl ?_
  refine lCall fok_199 (.c (.t (.s .z)) (.c (.t .z) .n)) (field_After_c K a0 a1 b0_0 v0_1) (.c (.s .z) (.c (.s .z) .n)) rfl rfl fun o2 x3 h4 => ?_
  refine lRd (dMove (.t (.s (.s (.s (.s (.s .z))))))) rfl rfl ?_
  refine lRd (dSubI (.t (.s .z)) (.t .z)) rfl rfl ?_
  refine lRd (dSubI (.t .z) (.c rfl)) rfl rfl ?_
  refine lRd (dAssign (.t .z)) rfl rfl ?_
  refine lKeep (.k (.d (.d (.d (.d (.d (.d (.k (.k (.k .n)))))))))) ?_
  refine lNil ?_
  refine xCode ?_
  refine cSeq ?_
  refine cSeq ?_
  refine cRegion ?_
  refine lRd (dMove (.t .z)) rfl rfl ?_
  refine lRd (dLt (.t .z) (.c rfl)) rfl rfl ?_
  refine lKeep (.k (.d (.k (.k (.k (.k .n)))))) ?_
  refine lNil ?_
  refine xCode ?_
  refine cJoin (S := Int) (X := Unit) (fun (s : Int) (x : Unit) => [(5, .int .i64 s), (4, .pointer (some ⟨b1, 0, none⟩)), (0, .pointer (some ⟨b0_0, 0, none⟩)), (1, .int .i64 a1)]) (fun (s : Int) (x : Unit) => [.blk b0_0 [.int .i64 a0.f_size.f_Rows, .int .i64 a0.f_size.f_Cols, v0_1, .int .i64 a0.f_cursor] 126, .own v0_1 80 k_api_Cell a0.f_cells, .blk b1 [.int .i64 0, .int .i64 0, vB 0] 193]) ?_ (fun s9 x10 => ?_)
  · refine cCond (.t .z) (fun h5 => ?_) (fun h5 => ?_)
    · refine cRegion ?_
      refine lRd (dMove (.t (.s .z))) rfl rfl ?_
      refine lRd (dMove (.t (.s (.s (.s (.s .z)))))) rfl rfl ?_
      refine lCall fok_66 (.c (.t .z) .n) (plane_Plane_Len_c a0 b0_0 v0_1) (.c .z (.c .z .n)) rfl rfl fun o6 x7 h8 => ?_
      refine lRd (dAddI (.t (.s (.s .z))) (.t .z)) rfl rfl ?_
      refine lRdK (dAssign (.t .z)) (.k (.k (.k (.k (.k (.d (Keep.refl _))))))) rfl rfl ?_
      refine lKeep (.k (.d (.d (.d (.d (.d (.k (.k (.k .n))))))))) ?_
      refine lNil ?_
      exact xJoin (w64 ((w64 ((w64 (o2 - a1)) - 1)) + o6)) () (.c .z (.c (.s .z) (.c (.s (.s .z)) (.c (.s (.s (.s .z))) .n)))) (.c .z (.c .z (.c .z .nil)))
    · refine cSkip ?_
      exact xJoin (w64 ((w64 (o2 - a1)) - 1)) () (.c (.s .z) (.c (.s (.s .z)) (.c (.s (.s (.s .z))) (.c (.s (.s (.s (.s .z)))) .n)))) (.c .z (.c .z (.c .z .nil)))
  · refine xCode ?_
    refine cSeq ?_
    refine cRegion ?_
    refine lRd (dMove (.t (.s (.s (.s .z))))) rfl rfl ?_
    refine lRd (dMove (.t (.s .z))) rfl rfl ?_
    refine lRd (dMove (.t (.s (.s (.s (.s .z)))))) rfl rfl ?_
    refine lRd (dMove (.t (.s (.s (.s (.s (.s (.s .z)))))))) rfl rfl ?_
    refine lCall fok_36 (.c (.t (.s .z)) (.c (.t .z) .n)) (plane_Plane_At_c a0 a1 b0_0 v0_1) (.c .z (.c .z .n)) rfl rfl fun o11 x12 h13 => ?_
    refine lRd (dField (u := vB o11.f_Byte) fld_80_0 (.t .z) rfl) rfl rfl ?_
    refine lRd (dAndB (.t .z) (.c (v' := vB 63) rfl)) rfl rfl ?_
    refine lRd (dBuild (cs := [.int .i64 a1, .int .i64 s9, vB (o11.f_Byte &&& (63 : UInt8))]) zer_193 rfl plc_193 (.c (.t (.s (.s (.s (.s (.s (.s .z))))))) (.c (.t (.s (.s (.s (.s (.s .z)))))) (.c (.t .z) .n))) rfl) rfl rfl ?_
    refine lChU (uStoreA (us := [.int .i64 a1, .int .i64 s9, vB (o11.f_Byte &&& (63 : UInt8))]) (cs' := [.int .i64 a1, .int .i64 s9, vB (o11.f_Byte &&& (63 : UInt8))]) (.s (.s .z)) siz_193 rfl (by intro u hu; simp only [List.mem_cons, List.not_mem_nil, or_false] at hu; rcases hu with rfl | rfl | rfl <;> first | rfl | assumption) rfl (by simp) (.t (.s (.s (.s (.s (.s (.s (.s (.s (.s .z)))))))))) (.t .z)) ?_
    refine lKeep (.d (.d (.d (.d (.d (.d (.d (.d (.d (.k .n)))))))))) ?_
    refine lNil ?_
    refine xCode ?_
    refine cRet ?_
    exact rDone (rs := [.cell 4 193]) rfl (.a .z (.s (.s .z)) agg_193 siz_193 .n) hD (.inl rfl) () rfl (.c .z (.c .z .nil))

-- greenscreen/field.Before
def field_Before_m (K : Nat) (a0 : plane_Plane) (a1 : Int) : Option (Int) := (field_look_m K a0 a1 (-1)).bind fun o1 => some o1
theorem field_Before_c (K : Nat) (a0 : plane_Plane) (a1 : Int) (b0_0 : Nat) (v0_1 : Value) : Con Tryz.prog 181 #[.pointer (some ⟨b0_0, 0, none⟩), .int .i64 a1] [.blk b0_0 [.int .i64 a0.f_size.f_Rows, .int .i64 a0.f_size.f_Cols, v0_1, .int .i64 a0.f_cursor] 126, .own v0_1 80 k_api_Cell a0.f_cells] (field_Before_m K a0 a1) (fun (o : Int) (x : Unit) => .int .i64 o) (fun (o : Int) (x : Unit) => [.blk b0_0 [.int .i64 a0.f_size.f_Rows, .int .i64 a0.f_size.f_Cols, v0_1, .int .i64 a0.f_cursor] 126, .own v0_1 80 k_api_Cell a0.f_cells]) := by
  unfold field_Before_m
  refine con (args := [.pointer (some ⟨b0_0, 0, none⟩), .int .i64 a1]) Tryz.func181 rfl 8 rfl (.c (.c .n)) rfl fun c hD => ?_
  refine cSeq ?_
  refine cRegion ?_
  refine lRd (dAssign (.c rfl)) rfl rfl ?_
  refine lNil ?_
  refine xCode ?_
  refine cSeq ?_
  refine cRegion ?_
  refine lRd (dMove (.t (.s .z))) rfl rfl ?_
  refine lRd (dMove (.t (.s (.s (.s .z))))) rfl rfl ?_
  refine lCall fok_217 (.c (.t (.s .z)) (.c (.t .z) (.c (.c rfl) .n))) (field_look_c K a0 a1 (-1) b0_0 v0_1) (.c .z (.c .z .n)) rfl rfl fun o1 x2 h3 => ?_
  refine lRdK (dAssign (.t .z)) (.k (.k (.k (.d (Keep.refl _))))) rfl rfl ?_
  refine lKeep (.k .n) ?_
  refine lNil ?_
  refine xCode ?_
  refine cRet ?_
  exact rDone (rs := [.tmp 4]) rfl (.t .z .n) hD (.inl rfl) () rfl (.c .z (.c .z .nil))

-- greenscreen/field.Of
def field_Of_m (K : Nat) (a0 : plane_Plane) (a1 : Int) : Option (field_Field × Bool) := (field_Before_m K a0 a1).bind fun o2 => (if o2 < 0 then some ((⟨0, 0, 0⟩ : field_Field), false) else (field_at_m K a0 o2).bind fun o6 => some (o6, true))
theorem field_Of_c (K : Nat) (a0 : plane_Plane) (a1 : Int) (b0_0 : Nat) (v0_1 : Value) : Con Tryz.prog 143 #[.pointer (some ⟨b0_0, 0, none⟩), .int .i64 a1] [.blk b0_0 [.int .i64 a0.f_size.f_Rows, .int .i64 a0.f_size.f_Cols, v0_1, .int .i64 a0.f_cursor] 126, .own v0_1 80 k_api_Cell a0.f_cells] (field_Of_m K a0 a1) (fun (o : field_Field × Bool) (x : Unit) => .tuple #[.agg #[.int .i64 o.1.f_Start, .int .i64 o.1.f_Len, vB o.1.f_Attr], .bool o.2]) (fun (o : field_Field × Bool) (x : Unit) => [.blk b0_0 [.int .i64 a0.f_size.f_Rows, .int .i64 a0.f_size.f_Cols, v0_1, .int .i64 a0.f_cursor] 126, .own v0_1 80 k_api_Cell a0.f_cells]) := by
  unfold field_Of_m
  refine con (args := [.pointer (some ⟨b0_0, 0, none⟩), .int .i64 a1]) Tryz.func143 rfl 16 rfl (.c (.c .n)) rfl fun c hD => ?_
  refine cSeq ?_
  refine cRegion ?_
  refine lCh (cAlloc (cs := [.int .i64 0, .int .i64 0, vB 0]) zer_193 rfl) rfl rfl fun b1 => ?_
  refine lRd (dAssign (.c rfl)) rfl rfl ?_
  refine lNil ?_
  refine xCode ?_
  refine cSeq ?_
  refine cRegion ?_
  refine lRd (dMove (.t (.s (.s .z)))) rfl rfl ?_
  refine lRd (dMove (.t (.s (.s (.s (.s .z)))))) rfl rfl ?_
  refine lCall fok_181 (.c (.t (.s .z)) (.c (.t .z) .n)) (field_Before_c K a0 a1 b0_0 v0_1) (.c (.s .z) (.c (.s .z) .n)) rfl rfl fun o2 x3 h4 => ?_
  refine lRd (dAssign (.t .z)) rfl rfl ?_
  refine lKeep (.k (.d (.d (.d (.k (.k (.k .n))))))) ?_
  refine lNil ?_
  refine xCode ?_
  refine cSeq ?_
  refine cSeq ?_
  refine cRegion ?_
  refine lRd (dMove (.t .z)) rfl rfl ?_
  refine lRd (dLt (.t .z) (.c rfl)) rfl rfl ?_
  refine lKeep (.k (.d (.k (.k (.k (.k .n)))))) ?_
  refine lNil ?_
  refine xCode ?_
  refine cCond (.t .z) (fun h5 => ?_) (fun h5 => ?_)
  · refine cSeq ?_
    refine cRegion ?_
    refine lRd (dBuild (cs := [.int .i64 0, .int .i64 0, vB 0]) zer_193 rfl plc_193 .n rfl) rfl rfl ?_
    refine lChU (uStoreA (us := [.int .i64 0, .int .i64 0, vB 0]) (cs' := [.int .i64 0, .int .i64 0, vB 0]) (.s (.s .z)) siz_193 rfl (by intro u hu; simp only [List.mem_cons, List.not_mem_nil, or_false] at hu; rcases hu with rfl | rfl | rfl <;> first | rfl | assumption) rfl (by simp) (.t (.s (.s (.s (.s .z))))) (.t .z)) ?_
    refine lRdK (dAssign (.c rfl)) (.k (.k (.k (.d (Keep.refl _))))) rfl rfl ?_
    refine lKeep (.k (.d (.d (.k (.k (.k .n)))))) ?_
    refine lNil ?_
    refine xCode ?_
    refine cRet ?_
    exact rDone (rs := [.cell 4 193, .tmp 5]) rfl (.a (.s (.s .z)) (.s (.s .z)) agg_193 siz_193 (.t .z .n)) hD (.inl rfl) () rfl (.c .z (.c .z .nil))
  · refine cSkip ?_
    refine xCode ?_
    refine cSeq ?_
    refine cRegion ?_
    refine lRd (dMove (.t (.s (.s (.s (.s .z)))))) rfl rfl ?_
    refine lRd (dMove (.t (.s (.s .z)))) rfl rfl ?_
    refine lCall fok_174 (.c (.t (.s .z)) (.c (.t .z) .n)) (field_at_c K a0 o2 b0_0 v0_1) (.c .z (.c .z .n)) rfl rfl fun o6 x7 h8 => ?_
    refine lChU (uStoreA (us := [.int .i64 o6.f_Start, .int .i64 o6.f_Len, vB o6.f_Attr]) (cs' := [.int .i64 o6.f_Start, .int .i64 o6.f_Len, vB o6.f_Attr]) (.s (.s .z)) siz_193 rfl (by intro u hu; simp only [List.mem_cons, List.not_mem_nil, or_false] at hu; rcases hu with rfl | rfl | rfl <;> first | rfl | assumption) rfl (by simp) (.t (.s (.s (.s (.s (.s (.s .z))))))) (.t .z)) ?_
    refine lRdK (dAssign (.c rfl)) (.k (.k (.k (.k (.k (.d (Keep.refl _))))))) rfl rfl ?_
    refine lKeep (.k (.d (.d (.d (.d (.d (.k .n))))))) ?_
    refine lNil ?_
    refine xCode ?_
    refine cRet ?_
    exact rDone (rs := [.cell 4 193, .tmp 5]) rfl (.a (.s .z) (.s (.s .z)) agg_193 siz_193 (.t .z .n)) hD (.inl rfl) () rfl (.c .z (.c .z .nil))

-- greenscreen/caret.open
def caret_open_m (K : Nat) (a0 : plane_Plane) (a1 : Int) : Option (Bool) := (field_Of_m K a0 a1).bind fun o1 => (if o1.2 = true then (if o1.1.f_Start = a1 then (if o1.1.f_Len > 0 then (attr_Protected_m o1.1.f_Attr).bind fun o8 => some (!o8) else some false) else some false) else some false)
theorem caret_open_c (K : Nat) (a0 : plane_Plane) (a1 : Int) (b0_0 : Nat) (v0_1 : Value) : Con Tryz.prog 144 #[.pointer (some ⟨b0_0, 0, none⟩), .int .i64 a1] [.blk b0_0 [.int .i64 a0.f_size.f_Rows, .int .i64 a0.f_size.f_Cols, v0_1, .int .i64 a0.f_cursor] 126, .own v0_1 80 k_api_Cell a0.f_cells] (caret_open_m K a0 a1) (fun (o : Bool) (x : Unit) => .bool o) (fun (o : Bool) (x : Unit) => [.blk b0_0 [.int .i64 a0.f_size.f_Rows, .int .i64 a0.f_size.f_Cols, v0_1, .int .i64 a0.f_cursor] 126, .own v0_1 80 k_api_Cell a0.f_cells]) := by
  unfold caret_open_m
  refine con (args := [.pointer (some ⟨b0_0, 0, none⟩), .int .i64 a1]) Tryz.func144 rfl 31 rfl (.c (.c .n)) rfl fun c hD => ?_
  refine cSeq ?_
  refine cRegion ?_
  refine lRd (dAssign (.c rfl)) rfl rfl ?_
  refine lNil ?_
  refine xCode ?_
  refine cSeq ?_
  refine cRegion ?_
  refine lRd (dMove (.t (.s .z))) rfl rfl ?_
  refine lRd (dMove (.t (.s (.s (.s .z))))) rfl rfl ?_
  refine lCall fok_143 (.c (.t (.s .z)) (.c (.t .z) .n)) (field_Of_c K a0 a1 b0_0 v0_1) (.c .z (.c .z .n)) rfl rfl fun o1 x2 h3 => ?_
  refine lRd (dMove (.t .z)) rfl rfl ?_
  refine lRd (dExtract (.t .z) rfl) rfl rfl ?_
  refine lRd (dExtract (.t (.s .z)) rfl) rfl rfl ?_
  refine lCh (cAlloc (cs := [.int .i64 0, .int .i64 0, vB 0]) zer_193 rfl) rfl rfl fun b4 => ?_
  refine lChU (uStoreA (us := [.int .i64 o1.1.f_Start, .int .i64 o1.1.f_Len, vB o1.1.f_Attr]) (cs' := [.int .i64 o1.1.f_Start, .int .i64 o1.1.f_Len, vB o1.1.f_Attr]) .z siz_193 rfl (by intro u hu; simp only [List.mem_cons, List.not_mem_nil, or_false] at hu; rcases hu with rfl | rfl | rfl <;> first | rfl | assumption) rfl (by simp) (.t .z) (.t (.s (.s .z)))) ?_
  refine lRd (dAssign (.t (.s .z))) rfl rfl ?_
  refine lKeep (.k (.k (.d (.d (.d (.d (.d (.d (.k (.d (.k .n))))))))))) ?_
  refine lNil ?_
  refine xCode ?_
  refine cSeq ?_
  refine cRegion ?_
  refine lRd (dMove (.t .z)) rfl rfl ?_
  refine lRd (dMove (.t .z)) rfl rfl ?_
  refine lCase (fun h5 => ?_) (fun h5 => ?_)
  · refine lRdG rfl .z h5 (dFld fld_193_0 (by decide) (.t (.s (.s (.s .z)))) rfl) rfl rfl ?_
    refine lRdG rfl (.s .z) h5 (dLoad .z agg_3 (.t .z) rfl) rfl rfl ?_
    refine lRdG rfl (.s (.s .z)) h5 (dMove (.t (.s (.s (.s (.s (.s (.s (.s .z))))))))) rfl rfl ?_
    refine lRdG rfl (.s (.s (.s .z))) h5 (dEq (.t (.s .z)) (.t .z)) rfl rfl ?_
    refine lRd (dPickT (.t (.s (.s (.s (.s .z))))) h5 (.t .z)) rfl rfl ?_
    refine lRd (dMove (.t .z)) rfl rfl ?_
    refine lCase (fun h6 => ?_) (fun h6 => ?_)
    · refine lRdG rfl .z (decide_eq_true h6) (dFld fld_193_1 (by decide) (.t (.s (.s (.s (.s (.s (.s (.s (.s (.s .z)))))))))) rfl) rfl rfl ?_
      refine lRdG rfl (.s .z) (decide_eq_true h6) (dLoad .z agg_3 (.t .z) rfl) rfl rfl ?_
      refine lRdG rfl (.s (.s .z)) (decide_eq_true h6) (dGt (.t .z) (.c rfl)) rfl rfl ?_
      refine lRd (dPickT (.t (.s (.s (.s .z)))) (decide_eq_true h6) (.t .z)) rfl rfl ?_
      refine lRd (dMove (.t .z)) rfl rfl ?_
      refine lCase (fun h7 => ?_) (fun h7 => ?_)
      · refine lRdG rfl .z (decide_eq_true h7) (dFld fld_193_2 (by decide) (.t (.s (.s (.s (.s (.s (.s (.s (.s (.s (.s (.s (.s (.s (.s .z))))))))))))))) rfl) rfl rfl ?_
        refine lRdG rfl (.s .z) (decide_eq_true h7) (dLoad .z agg_5 (.t .z) rfl) rfl rfl ?_
        refine lCallG rfl (.s (.s .z)) (decide_eq_true h7) fok_133 (.c (.t .z) .n) (attr_Protected_c o1.1.f_Attr) .n rfl rfl fun o8 x9 h10 => ?_
        refine lRdG rfl (.s (.s (.s .z))) (decide_eq_true h7) (dNot (.t .z)) rfl rfl ?_
        refine lRd (dPickT (.t (.s (.s (.s (.s .z))))) (decide_eq_true h7) (.t .z)) rfl rfl ?_
        refine lRdK (dAssign (.t .z)) (.k (.k (.k (.k (.k (.k (.k (.k (.k (.k (.k (.k (.k (.k (.k (.k (.k (.k (.k (.k (.d (Keep.refl _)))))))))))))))))))))) rfl rfl ?_
        refine lKeep (.k .n) ?_
        refine lNil ?_
        refine xCode ?_
        refine cRet ?_
        exact rDone (rs := [.tmp 4]) rfl (.t .z .n) hD (.inl rfl) () rfl (.c (.s .z) (.c (.s .z) .nil))
      · refine lPass rfl .z (nbT (decide_eq_false h7)) rfl ?_
        refine lPass rfl .z (nbT (decide_eq_false h7)) rfl ?_
        refine lPass rfl .z (nbT (decide_eq_false h7)) rfl ?_
        refine lPass rfl .z (nbT (decide_eq_false h7)) rfl ?_
        refine lRd (dPickF (.t .z) (decide_eq_false h7) (.c rfl)) rfl rfl ?_
        refine lRdK (dAssign (.t .z)) (.k (.k (.k (.k (.k (.k (.k (.k (.k (.k (.k (.k (.k (.k (.k (.k (.d (Keep.refl _)))))))))))))))))) rfl rfl ?_
        refine lKeep (.k .n) ?_
        refine lNil ?_
        refine xCode ?_
        refine cRet ?_
        exact rDone (rs := [.tmp 4]) rfl (.t .z .n) hD (.inl rfl) () rfl (.c (.s .z) (.c (.s .z) .nil))
    · refine lPass rfl .z (nbT (decide_eq_false h6)) rfl ?_
      refine lPass rfl .z (nbT (decide_eq_false h6)) rfl ?_
      refine lPass rfl .z (nbT (decide_eq_false h6)) rfl ?_
      refine lRd (dPickF (.t .z) (decide_eq_false h6) (.c rfl)) rfl rfl ?_
      refine lRd (dMove (.t .z)) rfl rfl ?_
      refine lPass rfl .z (nbT rfl) rfl ?_
      refine lPass rfl .z (nbT rfl) rfl ?_
      refine lPass rfl .z (nbT rfl) rfl ?_
      refine lPass rfl .z (nbT rfl) rfl ?_
      refine lRd (dPickF (.t .z) rfl (.c rfl)) rfl rfl ?_
      refine lRdK (dAssign (.t .z)) (.k (.k (.k (.k (.k (.k (.k (.k (.k (.k (.k (.k (.k (.d (Keep.refl _))))))))))))))) rfl rfl ?_
      refine lKeep (.k .n) ?_
      refine lNil ?_
      refine xCode ?_
      refine cRet ?_
      exact rDone (rs := [.tmp 4]) rfl (.t .z .n) hD (.inl rfl) () rfl (.c (.s .z) (.c (.s .z) .nil))
  · refine lPass rfl .z (nbT (Bool.eq_false_iff.mpr h5)) rfl ?_
    refine lPass rfl .z (nbT (Bool.eq_false_iff.mpr h5)) rfl ?_
    refine lPass rfl .z (nbT (Bool.eq_false_iff.mpr h5)) rfl ?_
    refine lPass rfl .z (nbT (Bool.eq_false_iff.mpr h5)) rfl ?_
    refine lRd (dPickF (.t .z) (Bool.eq_false_iff.mpr h5) (.c rfl)) rfl rfl ?_
    refine lRd (dMove (.t .z)) rfl rfl ?_
    refine lPass rfl .z (nbT rfl) rfl ?_
    refine lPass rfl .z (nbT rfl) rfl ?_
    refine lPass rfl .z (nbT rfl) rfl ?_
    refine lRd (dPickF (.t .z) rfl (.c rfl)) rfl rfl ?_
    refine lRd (dMove (.t .z)) rfl rfl ?_
    refine lPass rfl .z (nbT rfl) rfl ?_
    refine lPass rfl .z (nbT rfl) rfl ?_
    refine lPass rfl .z (nbT rfl) rfl ?_
    refine lPass rfl .z (nbT rfl) rfl ?_
    refine lRd (dPickF (.t .z) rfl (.c rfl)) rfl rfl ?_
    refine lRdK (dAssign (.t .z)) (.k (.k (.k (.k (.k (.k (.k (.k (.k (.d (Keep.refl _))))))))))) rfl rfl ?_
    refine lKeep (.k .n) ?_
    refine lNil ?_
    refine xCode ?_
    refine cRet ?_
    exact rDone (rs := [.tmp 4]) rfl (.t .z .n) hD (.inl rfl) () rfl (.c (.s .z) (.c (.s .z) .nil))

-- greenscreen/caret.by
def caret_by_m (a0 : plane_Plane) (a1 : Int) (a2 : Int) : Option (Int) := (plane_Plane_Size_m a0).bind fun o1 => (addr_Move_m o1 a1 a2).bind fun o4 => some o4
theorem caret_by_c (a0 : plane_Plane) (a1 : Int) (a2 : Int) (b0_0 : Nat) (v0_1 : Value) : Con Tryz.prog 145 #[.pointer (some ⟨b0_0, 0, none⟩), .int .i64 a1, .int .i64 a2] [.blk b0_0 [.int .i64 a0.f_size.f_Rows, .int .i64 a0.f_size.f_Cols, v0_1, .int .i64 a0.f_cursor] 126, .own v0_1 80 k_api_Cell a0.f_cells] (caret_by_m a0 a1 a2) (fun (o : Int) (x : Unit) => .int .i64 o) (fun (o : Int) (x : Unit) => [.blk b0_0 [.int .i64 a0.f_size.f_Rows, .int .i64 a0.f_size.f_Cols, v0_1, .int .i64 a0.f_cursor] 126, .own v0_1 80 k_api_Cell a0.f_cells]) := by
  unfold caret_by_m
  refine con (args := [.pointer (some ⟨b0_0, 0, none⟩), .int .i64 a1, .int .i64 a2]) Tryz.func145 rfl 12 rfl (.c (.c (.c .n))) rfl fun c hD => ?_
  refine cSeq ?_
  refine cRegion ?_
  refine lRd (dAssign (.c rfl)) rfl rfl ?_
  refine lNil ?_
  refine xCode ?_
  refine cSeq ?_
  refine cRegion ?_
  refine lRd (dMove (.t (.s .z))) rfl rfl ?_
  refine lCall fok_147 (.c (.t .z) .n) (plane_Plane_Size_c a0 b0_0 v0_1) (.c .z (.c .z .n)) rfl rfl fun o1 x2 h3 => ?_
  refine lRd (dMove (.t (.s (.s (.s (.s .z)))))) rfl rfl ?_
  refine lRd (dMove (.t (.s (.s (.s (.s (.s (.s .z)))))))) rfl rfl ?_
  refine lCall fok_176 (.c (.t (.s (.s .z))) (.c (.t (.s .z)) (.c (.t .z) .n))) (addr_Move_c o1 a1 a2) .n rfl rfl fun o4 x5 h6 => ?_
  refine lRdK (dAssign (.t .z)) (.k (.k (.k (.k (.k (.d (Keep.refl _))))))) rfl rfl ?_
  refine lKeep (.k .n) ?_
  refine lNil ?_
  refine xCode ?_
  refine cRet ?_
  exact rDone (rs := [.tmp 6]) rfl (.t .z .n) hD (.inl rfl) () rfl (.c .z (.c .z .nil))

end Go.Proofs.YtecipnjloenndaaGreatDoor.G
