/-
The walk of law22_KeyboardResets, by program: each function's model, and its contract. Part 0.
-/
import Derived.Test.YtecipnjloenndaaGreatDoorSXm
import Derived.Test.YtecipnjloenndaaGreatDoorProg
set_option linter.unusedVariables false
set_option linter.unusedSimpArgs false
set_option maxRecDepth 20000
set_option maxHeartbeats 2000000
namespace Go.Proofs.YtecipnjloenndaaGreatDoor.G
open Go Go.RowKit Go.Proofs.YtecipnjloenndaaGreatDoor.SX
structure keyboard_Key where
  f_Kind : Int
  f_Byte : UInt8
deriving DecidableEq, Inhabited

theorem struct_ext_keyboard_Key (x y : keyboard_Key) : x = y ↔ x.f_Kind = y.f_Kind ∧ x.f_Byte = y.f_Byte := by cases x; cases y; simp
def k_keyboard_Key : Kind keyboard_Key := Kind.flat 2 (fun x => [.int .i64 x.f_Kind, vB x.f_Byte]) (fun _ => rfl) fun x c h => by
  simp only [List.mem_cons, List.not_mem_nil, or_false] at h
  rcases h with rfl | rfl <;> rfl
structure lock_Lock where
  f_state : Int
  f_why : Int
  f_turns : Int
deriving DecidableEq, Inhabited

theorem struct_ext_lock_Lock (x y : lock_Lock) : x = y ↔ x.f_state = y.f_state ∧ x.f_why = y.f_why ∧ x.f_turns = y.f_turns := by cases x; cases y; simp
def k_lock_Lock : Kind lock_Lock := Kind.flat 3 (fun x => [.int .i64 x.f_state, .int .i64 x.f_why, .int .i64 x.f_turns]) (fun _ => rfl) fun x c h => by
  simp only [List.mem_cons, List.not_mem_nil, or_false] at h
  rcases h with rfl | rfl | rfl <;> rfl
structure api_Size where
  f_Rows : Int
  f_Cols : Int
deriving DecidableEq, Inhabited

theorem struct_ext_api_Size (x y : api_Size) : x = y ↔ x.f_Rows = y.f_Rows ∧ x.f_Cols = y.f_Cols := by cases x; cases y; simp
def k_api_Size : Kind api_Size := Kind.flat 2 (fun x => [.int .i64 x.f_Rows, .int .i64 x.f_Cols]) (fun _ => rfl) fun x c h => by
  simp only [List.mem_cons, List.not_mem_nil, or_false] at h
  rcases h with rfl | rfl <;> rfl
structure api_Cell where
  f_Byte : UInt8
  f_GE : Bool
  f_Start : Bool
  f_Light : UInt8
  f_Color : UInt8
deriving DecidableEq, Inhabited

theorem struct_ext_api_Cell (x y : api_Cell) : x = y ↔ x.f_Byte = y.f_Byte ∧ x.f_GE = y.f_GE ∧ x.f_Start = y.f_Start ∧ x.f_Light = y.f_Light ∧ x.f_Color = y.f_Color := by cases x; cases y; simp
def k_api_Cell : Kind api_Cell := Kind.flat 5 (fun x => [vB x.f_Byte, .bool x.f_GE, .bool x.f_Start, vB x.f_Light, vB x.f_Color]) (fun _ => rfl) fun x c h => by
  simp only [List.mem_cons, List.not_mem_nil, or_false] at h
  rcases h with rfl | rfl | rfl | rfl | rfl <;> rfl
structure plane_Plane where
  f_size : api_Size
  f_cells : (List api_Cell)
  f_cursor : Int
deriving DecidableEq, Inhabited

theorem struct_ext_plane_Plane (x y : plane_Plane) : x = y ↔ x.f_size = y.f_size ∧ x.f_cells = y.f_cells ∧ x.f_cursor = y.f_cursor := by cases x; cases y; simp
def k_plane_Plane : Kind plane_Plane where
  n := 4
  rd R cs x := ∃ v2 : Value, cs = [.int .i64 x.f_size.f_Rows, .int .i64 x.f_size.f_Cols, v2, .int .i64 x.f_cursor] ∧ (kSl k_api_Cell).rd R [v2] x.f_cells
  mono {R R' cs x} hR h := by
    obtain ⟨v2, rfl, h2⟩ := h
    exact ⟨v2, rfl, Kind.mono _ hR h2⟩
  len {R cs x} h := by
    obtain ⟨v2, rfl, _⟩ := h
    rfl
  one {R cs x} h := by
    obtain ⟨v2, rfl, h2⟩ := h
    intro c hc
    simp only [List.mem_cons, List.not_mem_nil, or_false] at hc
    rcases hc with rfl | rfl | rfl | rfl
    · rfl
    · rfl
    · exact Kind.one _ h2 _ (by simp)
    · rfl
theorem open_plane_Plane (x : plane_Plane) : ∀ R cs, k_plane_Plane.rd R cs x → ∃ z : Value, cs = [.int .i64 x.f_size.f_Rows, .int .i64 x.f_size.f_Cols, z, .int .i64 x.f_cursor] ∧ sat R [.ro (kSl k_api_Cell) [z] x.f_cells] PH.emp := by
  intro R cs h
  obtain ⟨v2, rfl, h2⟩ := h
  exact ⟨v2, rfl, (satRo h2 satNil)⟩

structure screen_Screen where
  f_sizes_0 : api_Size
  f_sizes_1 : api_Size
  f_which : Int
  f_p : plane_Plane
deriving Inhabited

structure keyboard_Keyboard where
  f_s : screen_Screen
  f_l : lock_Lock
  f_insert : Bool
  f_last : UInt8
deriving Inhabited

structure screen_Result where
  f_Reply : UInt8
  f_Restore : Bool
  f_Alarm : Bool
  f_Err : Int
deriving DecidableEq, Inhabited

theorem struct_ext_screen_Result (x y : screen_Result) : x = y ↔ x.f_Reply = y.f_Reply ∧ x.f_Restore = y.f_Restore ∧ x.f_Alarm = y.f_Alarm ∧ x.f_Err = y.f_Err := by cases x; cases y; simp
def k_screen_Result : Kind screen_Result := Kind.flat 4 (fun x => [vB x.f_Reply, .bool x.f_Restore, .bool x.f_Alarm, .int .i64 x.f_Err]) (fun _ => rfl) fun x c h => by
  simp only [List.mem_cons, List.not_mem_nil, or_false] at h
  rcases h with rfl | rfl | rfl | rfl <;> rfl
structure field_Field where
  f_Start : Int
  f_Len : Int
  f_Attr : UInt8
deriving DecidableEq, Inhabited

theorem struct_ext_field_Field (x y : field_Field) : x = y ↔ x.f_Start = y.f_Start ∧ x.f_Len = y.f_Len ∧ x.f_Attr = y.f_Attr := by cases x; cases y; simp
def k_field_Field : Kind field_Field := Kind.flat 3 (fun x => [.int .i64 x.f_Start, .int .i64 x.f_Len, vB x.f_Attr]) (fun _ => rfl) fun x c h => by
  simp only [List.mem_cons, List.not_mem_nil, or_false] at h
  rcases h with rfl | rfl | rfl <;> rfl
structure ref14_Plane where
  f_Size : api_Size
  f_Cells : (List api_Cell)
  f_Cursor : Int
deriving DecidableEq, Inhabited

theorem struct_ext_ref14_Plane (x y : ref14_Plane) : x = y ↔ x.f_Size = y.f_Size ∧ x.f_Cells = y.f_Cells ∧ x.f_Cursor = y.f_Cursor := by cases x; cases y; simp
def k_ref14_Plane : Kind ref14_Plane where
  n := 4
  rd R cs x := ∃ v2 : Value, cs = [.int .i64 x.f_Size.f_Rows, .int .i64 x.f_Size.f_Cols, v2, .int .i64 x.f_Cursor] ∧ (kSl k_api_Cell).rd R [v2] x.f_Cells
  mono {R R' cs x} hR h := by
    obtain ⟨v2, rfl, h2⟩ := h
    exact ⟨v2, rfl, Kind.mono _ hR h2⟩
  len {R cs x} h := by
    obtain ⟨v2, rfl, _⟩ := h
    rfl
  one {R cs x} h := by
    obtain ⟨v2, rfl, h2⟩ := h
    intro c hc
    simp only [List.mem_cons, List.not_mem_nil, or_false] at hc
    rcases hc with rfl | rfl | rfl | rfl
    · rfl
    · rfl
    · exact Kind.one _ h2 _ (by simp)
    · rfl
theorem open_ref14_Plane (x : ref14_Plane) : ∀ R cs, k_ref14_Plane.rd R cs x → ∃ z : Value, cs = [.int .i64 x.f_Size.f_Rows, .int .i64 x.f_Size.f_Cols, z, .int .i64 x.f_Cursor] ∧ sat R [.ro (kSl k_api_Cell) [z] x.f_Cells] PH.emp := by
  intro R cs h
  obtain ⟨v2, rfl, h2⟩ := h
  exact ⟨v2, rfl, (satRo h2 satNil)⟩

structure ref18_Screen where
  f_Plain : api_Size
  f_More : api_Size
  f_P : ref14_Plane
  f_Other : Bool
deriving DecidableEq, Inhabited

theorem struct_ext_ref18_Screen (x y : ref18_Screen) : x = y ↔ x.f_Plain = y.f_Plain ∧ x.f_More = y.f_More ∧ x.f_P = y.f_P ∧ x.f_Other = y.f_Other := by cases x; cases y; simp
def k_ref18_Screen : Kind ref18_Screen where
  n := 9
  rd R cs x := ∃ v6 : Value, cs = [.int .i64 x.f_Plain.f_Rows, .int .i64 x.f_Plain.f_Cols, .int .i64 x.f_More.f_Rows, .int .i64 x.f_More.f_Cols, .int .i64 x.f_P.f_Size.f_Rows, .int .i64 x.f_P.f_Size.f_Cols, v6, .int .i64 x.f_P.f_Cursor, .bool x.f_Other] ∧ (kSl k_api_Cell).rd R [v6] x.f_P.f_Cells
  mono {R R' cs x} hR h := by
    obtain ⟨v6, rfl, h6⟩ := h
    exact ⟨v6, rfl, Kind.mono _ hR h6⟩
  len {R cs x} h := by
    obtain ⟨v6, rfl, _⟩ := h
    rfl
  one {R cs x} h := by
    obtain ⟨v6, rfl, h6⟩ := h
    intro c hc
    simp only [List.mem_cons, List.not_mem_nil, or_false] at hc
    rcases hc with rfl | rfl | rfl | rfl | rfl | rfl | rfl | rfl | rfl
    · rfl
    · rfl
    · rfl
    · rfl
    · rfl
    · rfl
    · exact Kind.one _ h6 _ (by simp)
    · rfl
    · rfl
theorem open_ref18_Screen (x : ref18_Screen) : ∀ R cs, k_ref18_Screen.rd R cs x → ∃ z : Value, cs = [.int .i64 x.f_Plain.f_Rows, .int .i64 x.f_Plain.f_Cols, .int .i64 x.f_More.f_Rows, .int .i64 x.f_More.f_Cols, .int .i64 x.f_P.f_Size.f_Rows, .int .i64 x.f_P.f_Size.f_Cols, z, .int .i64 x.f_P.f_Cursor, .bool x.f_Other] ∧ sat R [.ro (kSl k_api_Cell) [z] x.f_P.f_Cells] PH.emp := by
  intro R cs h
  obtain ⟨v6, rfl, h6⟩ := h
  exact ⟨v6, rfl, (satRo h6 satNil)⟩

structure ref21_Lock where
  f_State : Int
  f_Why : Int
  f_Turns : Int
deriving DecidableEq, Inhabited

theorem struct_ext_ref21_Lock (x y : ref21_Lock) : x = y ↔ x.f_State = y.f_State ∧ x.f_Why = y.f_Why ∧ x.f_Turns = y.f_Turns := by cases x; cases y; simp
def k_ref21_Lock : Kind ref21_Lock := Kind.flat 3 (fun x => [.int .i64 x.f_State, .int .i64 x.f_Why, .int .i64 x.f_Turns]) (fun _ => rfl) fun x c h => by
  simp only [List.mem_cons, List.not_mem_nil, or_false] at h
  rcases h with rfl | rfl | rfl <;> rfl
structure ref22_Keyboard where
  f_S : ref18_Screen
  f_L : ref21_Lock
  f_Insert : Bool
  f_Last : UInt8
deriving DecidableEq, Inhabited

theorem struct_ext_ref22_Keyboard (x y : ref22_Keyboard) : x = y ↔ x.f_S = y.f_S ∧ x.f_L = y.f_L ∧ x.f_Insert = y.f_Insert ∧ x.f_Last = y.f_Last := by cases x; cases y; simp
def k_ref22_Keyboard : Kind ref22_Keyboard where
  n := 14
  rd R cs x := ∃ v6 : Value, cs = [.int .i64 x.f_S.f_Plain.f_Rows, .int .i64 x.f_S.f_Plain.f_Cols, .int .i64 x.f_S.f_More.f_Rows, .int .i64 x.f_S.f_More.f_Cols, .int .i64 x.f_S.f_P.f_Size.f_Rows, .int .i64 x.f_S.f_P.f_Size.f_Cols, v6, .int .i64 x.f_S.f_P.f_Cursor, .bool x.f_S.f_Other, .int .i64 x.f_L.f_State, .int .i64 x.f_L.f_Why, .int .i64 x.f_L.f_Turns, .bool x.f_Insert, vB x.f_Last] ∧ (kSl k_api_Cell).rd R [v6] x.f_S.f_P.f_Cells
  mono {R R' cs x} hR h := by
    obtain ⟨v6, rfl, h6⟩ := h
    exact ⟨v6, rfl, Kind.mono _ hR h6⟩
  len {R cs x} h := by
    obtain ⟨v6, rfl, _⟩ := h
    rfl
  one {R cs x} h := by
    obtain ⟨v6, rfl, h6⟩ := h
    intro c hc
    simp only [List.mem_cons, List.not_mem_nil, or_false] at hc
    rcases hc with rfl | rfl | rfl | rfl | rfl | rfl | rfl | rfl | rfl | rfl | rfl | rfl | rfl | rfl
    · rfl
    · rfl
    · rfl
    · rfl
    · rfl
    · rfl
    · exact Kind.one _ h6 _ (by simp)
    · rfl
    · rfl
    · rfl
    · rfl
    · rfl
    · rfl
    · rfl
theorem open_ref22_Keyboard (x : ref22_Keyboard) : ∀ R cs, k_ref22_Keyboard.rd R cs x → ∃ z : Value, cs = [.int .i64 x.f_S.f_Plain.f_Rows, .int .i64 x.f_S.f_Plain.f_Cols, .int .i64 x.f_S.f_More.f_Rows, .int .i64 x.f_S.f_More.f_Cols, .int .i64 x.f_S.f_P.f_Size.f_Rows, .int .i64 x.f_S.f_P.f_Size.f_Cols, z, .int .i64 x.f_S.f_P.f_Cursor, .bool x.f_S.f_Other, .int .i64 x.f_L.f_State, .int .i64 x.f_L.f_Why, .int .i64 x.f_L.f_Turns, .bool x.f_Insert, vB x.f_Last] ∧ sat R [.ro (kSl k_api_Cell) [z] x.f_S.f_P.f_Cells] PH.emp := by
  intro R cs h
  obtain ⟨v6, rfl, h6⟩ := h
  exact ⟨v6, rfl, (satRo h6 satNil)⟩

structure law22_Op where
  f_Host : Int
  f_Key : keyboard_Key
  f_B : (List UInt8)
deriving DecidableEq, Inhabited

theorem struct_ext_law22_Op (x y : law22_Op) : x = y ↔ x.f_Host = y.f_Host ∧ x.f_Key = y.f_Key ∧ x.f_B = y.f_B := by cases x; cases y; simp
def k_law22_Op : Kind law22_Op where
  n := 4
  rd R cs x := ∃ v3 : Value, cs = [.int .i64 x.f_Host, .int .i64 x.f_Key.f_Kind, vB x.f_Key.f_Byte, v3] ∧ (kSl kB).rd R [v3] x.f_B
  mono {R R' cs x} hR h := by
    obtain ⟨v3, rfl, h3⟩ := h
    exact ⟨v3, rfl, Kind.mono _ hR h3⟩
  len {R cs x} h := by
    obtain ⟨v3, rfl, _⟩ := h
    rfl
  one {R cs x} h := by
    obtain ⟨v3, rfl, h3⟩ := h
    intro c hc
    simp only [List.mem_cons, List.not_mem_nil, or_false] at hc
    rcases hc with rfl | rfl | rfl | rfl
    · rfl
    · rfl
    · rfl
    · exact Kind.one _ h3 _ (by simp)
theorem open_law22_Op (x : law22_Op) : ∀ R cs, k_law22_Op.rd R cs x → ∃ z : Value, cs = [.int .i64 x.f_Host, .int .i64 x.f_Key.f_Kind, vB x.f_Key.f_Byte, z] ∧ sat R [.ro (kSl kB) [z] x.f_B] PH.emp := by
  intro R cs h
  obtain ⟨v3, rfl, h3⟩ := h
  exact ⟨v3, rfl, (satRo h3 satNil)⟩

structure command_form where
  f_kind : UInt8
  f_short : UInt8
  f_name : (List UInt8)
deriving DecidableEq, Inhabited

theorem struct_ext_command_form (x y : command_form) : x = y ↔ x.f_kind = y.f_kind ∧ x.f_short = y.f_short ∧ x.f_name = y.f_name := by cases x; cases y; simp
def k_command_form : Kind command_form := Kind.flat 3 (fun x => [vB x.f_kind, vB x.f_short, vS x.f_name]) (fun _ => rfl) fun x c h => by
  simp only [List.mem_cons, List.not_mem_nil, or_false] at h
  rcases h with rfl | rfl | rfl <;> rfl
structure order_parser where
  f_b : (List UInt8)
  f_at : Int
deriving DecidableEq, Inhabited

theorem struct_ext_order_parser (x y : order_parser) : x = y ↔ x.f_b = y.f_b ∧ x.f_at = y.f_at := by cases x; cases y; simp
def k_order_parser : Kind order_parser where
  n := 2
  rd R cs x := ∃ v0 : Value, cs = [v0, .int .i64 x.f_at] ∧ (kSl kB).rd R [v0] x.f_b
  mono {R R' cs x} hR h := by
    obtain ⟨v0, rfl, h0⟩ := h
    exact ⟨v0, rfl, Kind.mono _ hR h0⟩
  len {R cs x} h := by
    obtain ⟨v0, rfl, _⟩ := h
    rfl
  one {R cs x} h := by
    obtain ⟨v0, rfl, h0⟩ := h
    intro c hc
    simp only [List.mem_cons, List.not_mem_nil, or_false] at hc
    rcases hc with rfl | rfl
    · exact Kind.one _ h0 _ (by simp)
    · rfl
theorem open_order_parser (x : order_parser) : ∀ R cs, k_order_parser.rd R cs x → ∃ z : Value, cs = [z, .int .i64 x.f_at] ∧ sat R [.ro (kSl kB) [z] x.f_b] PH.emp := by
  intro R cs h
  obtain ⟨v0, rfl, h0⟩ := h
  exact ⟨v0, rfl, (satRo h0 satNil)⟩

structure api_Pair where
  f_Type : UInt8
  f_Value : UInt8
deriving DecidableEq, Inhabited

theorem struct_ext_api_Pair (x y : api_Pair) : x = y ↔ x.f_Type = y.f_Type ∧ x.f_Value = y.f_Value := by cases x; cases y; simp
def k_api_Pair : Kind api_Pair := Kind.flat 2 (fun x => [vB x.f_Type, vB x.f_Value]) (fun _ => rfl) fun x c h => by
  simp only [List.mem_cons, List.not_mem_nil, or_false] at h
  rcases h with rfl | rfl <;> rfl
structure api_Order where
  f_Kind : UInt8
  f_Addr : Int
  f_Byte : UInt8
  f_GE : Bool
  f_Pairs : (List api_Pair)
  f_Data : (List UInt8)
deriving DecidableEq, Inhabited

theorem struct_ext_api_Order (x y : api_Order) : x = y ↔ x.f_Kind = y.f_Kind ∧ x.f_Addr = y.f_Addr ∧ x.f_Byte = y.f_Byte ∧ x.f_GE = y.f_GE ∧ x.f_Pairs = y.f_Pairs ∧ x.f_Data = y.f_Data := by cases x; cases y; simp
def k_api_Order : Kind api_Order where
  n := 6
  rd R cs x := ∃ v4 v5 : Value, cs = [vB x.f_Kind, .int .i64 x.f_Addr, vB x.f_Byte, .bool x.f_GE, v4, v5] ∧ (kSl k_api_Pair).rd R [v4] x.f_Pairs ∧ (kSl kB).rd R [v5] x.f_Data
  mono {R R' cs x} hR h := by
    obtain ⟨v4, v5, rfl, h4, h5⟩ := h
    exact ⟨v4, v5, rfl, Kind.mono _ hR h4, Kind.mono _ hR h5⟩
  len {R cs x} h := by
    obtain ⟨v4, v5, rfl, _⟩ := h
    rfl
  one {R cs x} h := by
    obtain ⟨v4, v5, rfl, h4, h5⟩ := h
    intro c hc
    simp only [List.mem_cons, List.not_mem_nil, or_false] at hc
    rcases hc with rfl | rfl | rfl | rfl | rfl | rfl
    · rfl
    · rfl
    · rfl
    · rfl
    · exact Kind.one _ h4 _ (by simp)
    · exact Kind.one _ h5 _ (by simp)
theorem open_api_Order (x : api_Order) : ∀ R cs, k_api_Order.rd R cs x → ∃ z : Value × Value, cs = [vB x.f_Kind, .int .i64 x.f_Addr, vB x.f_Byte, .bool x.f_GE, z.1, z.2] ∧ sat R [.ro (kSl k_api_Pair) [z.1] x.f_Pairs, .ro (kSl kB) [z.2] x.f_Data] PH.emp := by
  intro R cs h
  obtain ⟨v4, v5, rfl, h4, h5⟩ := h
  exact ⟨(v4, v5), rfl, (satRo h4 (satRo h5 satNil))⟩

mutual
structure command_Command where
  f_Kind : UInt8
  f_WCC : UInt8
  f_Orders : (List api_Order)
  f_Err : Int
  f_Fields : (List command_Field)
deriving Inhabited

structure command_Field where
  f_ID : UInt8
  f_Op : UInt8
  f_Inner : command_Command
deriving Inhabited

end
theorem struct_ext_command_Command (x y : command_Command) : x = y ↔ x.f_Kind = y.f_Kind ∧ x.f_WCC = y.f_WCC ∧ x.f_Orders = y.f_Orders ∧ x.f_Err = y.f_Err ∧ x.f_Fields = y.f_Fields := by cases x; cases y; simp
theorem struct_ext_command_Field (x y : command_Field) : x = y ↔ x.f_ID = y.f_ID ∧ x.f_Op = y.f_Op ∧ x.f_Inner = y.f_Inner := by cases x; cases y; simp
def kf_command_Field (k : Kind command_Field) : Kind command_Field where
  n := 7
  rd R cs x := ∃ v4 v6 : Value, cs = [vB x.f_ID, vB x.f_Op, vB x.f_Inner.f_Kind, vB x.f_Inner.f_WCC, v4, .int .i64 x.f_Inner.f_Err, v6] ∧ (kSl k_api_Order).rd R [v4] x.f_Inner.f_Orders ∧ (kSl k).rd R [v6] x.f_Inner.f_Fields
  mono {R R' cs x} hR h := by
    obtain ⟨v4, v6, rfl, h4, h6⟩ := h
    exact ⟨v4, v6, rfl, Kind.mono _ hR h4, Kind.mono _ hR h6⟩
  len {R cs x} h := by
    obtain ⟨v4, v6, rfl, _⟩ := h
    rfl
  one {R cs x} h := by
    obtain ⟨v4, v6, rfl, h4, h6⟩ := h
    intro c hc
    simp only [List.mem_cons, List.not_mem_nil, or_false] at hc
    rcases hc with rfl | rfl | rfl | rfl | rfl | rfl | rfl
    · rfl
    · rfl
    · rfl
    · rfl
    · exact Kind.one _ h4 _ (by simp)
    · rfl
    · exact Kind.one _ h6 _ (by simp)
def kn_command_Field : Nat → Kind command_Field
  | 0 => noK command_Field 7
  | d + 1 => kf_command_Field (kn_command_Field d)
theorem kn_command_Field_n : ∀ d, (kn_command_Field d).n = 7
  | 0 => rfl
  | _ + 1 => rfl
theorem kn_command_Field_up : ∀ d R cs x, (kn_command_Field d).rd R cs x → (kn_command_Field (d + 1)).rd R cs x := by
  intro d
  induction d with
  | zero => exact fun _ _ _ h => h.elim
  | succ d ih =>
    intro R cs x h
    obtain ⟨v4, v6, rfl, h4, h6⟩ := h
    exact ⟨v4, v6, rfl, h4, kSl_mono' ih h6⟩
def k_command_Field : Kind command_Field := lfpK kn_command_Field 7 kn_command_Field_n
theorem k_command_Field_iff {R : PH} {cs : List Value} {x : command_Field} : k_command_Field.rd R cs x ↔ ∃ v4 v6 : Value, cs = [vB x.f_ID, vB x.f_Op, vB x.f_Inner.f_Kind, vB x.f_Inner.f_WCC, v4, .int .i64 x.f_Inner.f_Err, v6] ∧ (kSl k_api_Order).rd R [v4] x.f_Inner.f_Orders ∧ (kSl k_command_Field).rd R [v6] x.f_Inner.f_Fields := by
  constructor
  · rintro ⟨d, h⟩
    cases d with
    | zero => exact h.elim
    | succ d =>
      obtain ⟨v4, v6, rfl, h4, h6⟩ := h
      exact ⟨v4, v6, rfl, h4, kSl_mono' (k' := k_command_Field) (fun R cs x h => ⟨d, h⟩) h6⟩
  · intro h
    obtain ⟨v4, v6, rfl, h4, h6⟩ := h
    obtain ⟨d, h6⟩ := kSl_sup kn_command_Field_up h6
    exact ⟨d + 1, v4, v6, rfl, h4, h6⟩
theorem open_command_Field (x : command_Field) : ∀ R cs, k_command_Field.rd R cs x → ∃ z : Value × Value, cs = [vB x.f_ID, vB x.f_Op, vB x.f_Inner.f_Kind, vB x.f_Inner.f_WCC, z.1, .int .i64 x.f_Inner.f_Err, z.2] ∧ sat R [.ro (kSl k_api_Order) [z.1] x.f_Inner.f_Orders, .ro (kSl k_command_Field) [z.2] x.f_Inner.f_Fields] PH.emp := by
  intro R cs h
  rw [k_command_Field_iff] at h
  obtain ⟨v4, v6, rfl, h4, h6⟩ := h
  exact ⟨(v4, v6), rfl, (satRo h4 (satRo h6 satNil))⟩

def k_command_Command : Kind command_Command where
  n := 5
  rd R cs x := ∃ v2 v4 : Value, cs = [vB x.f_Kind, vB x.f_WCC, v2, .int .i64 x.f_Err, v4] ∧ (kSl k_api_Order).rd R [v2] x.f_Orders ∧ (kSl k_command_Field).rd R [v4] x.f_Fields
  mono {R R' cs x} hR h := by
    obtain ⟨v2, v4, rfl, h2, h4⟩ := h
    exact ⟨v2, v4, rfl, Kind.mono _ hR h2, Kind.mono _ hR h4⟩
  len {R cs x} h := by
    obtain ⟨v2, v4, rfl, _⟩ := h
    rfl
  one {R cs x} h := by
    obtain ⟨v2, v4, rfl, h2, h4⟩ := h
    intro c hc
    simp only [List.mem_cons, List.not_mem_nil, or_false] at hc
    rcases hc with rfl | rfl | rfl | rfl | rfl
    · rfl
    · rfl
    · exact Kind.one _ h2 _ (by simp)
    · rfl
    · exact Kind.one _ h4 _ (by simp)
theorem open_command_Command (x : command_Command) : ∀ R cs, k_command_Command.rd R cs x → ∃ z : Value × Value, cs = [vB x.f_Kind, vB x.f_WCC, z.1, .int .i64 x.f_Err, z.2] ∧ sat R [.ro (kSl k_api_Order) [z.1] x.f_Orders, .ro (kSl k_command_Field) [z.2] x.f_Fields] PH.emp := by
  intro R cs h
  obtain ⟨v2, v4, rfl, h2, h4⟩ := h
  exact ⟨(v2, v4), rfl, (satRo h2 (satRo h4 satNil))⟩

structure paint_brush where
  f_p : plane_Plane
  f_at : Int
  f_look : api_Cell
  f_laid : Bool
deriving Inhabited

def glob_0 : List (List UInt8) := [[], [], [84, 65, 66], [66, 65, 67, 75, 84, 65, 66], [78, 69, 87, 76, 73, 78, 69], [72, 79, 77, 69], [85, 80], [68, 79, 87, 78], [76, 69, 70, 84], [82, 73, 71, 72, 84], [69, 82, 65, 83, 69, 69, 78, 68], [69, 82, 65, 83, 69, 73, 78, 80, 85, 84], [68, 69, 76, 69, 84, 69], [73, 78, 83, 69, 82, 84], [68, 85, 80], [77, 65, 82, 75], [82, 69, 83, 69, 84]]
theorem mixed : Tryz.prog.follows .mixedOrders = true := by kernel_rfl
theorem und_9 : Tryz.prog.underlying 9 = some (.string) := by kernel_rfl
theorem som_218 : (Tryz.prog.underlying 218).isSome = true := by kernel_rfl
theorem und_5 : Tryz.prog.underlying 5 = some (.int .u8) := by kernel_rfl
theorem som_5 : (Tryz.prog.underlying 5).isSome = true := by kernel_rfl
theorem und_3 : Tryz.prog.underlying 3 = some (.int .i64) := by kernel_rfl
theorem fok_191 : fnOk Tryz.prog 191 = true := by kernel_rfl
theorem fok_190 : fnOk Tryz.prog 190 = true := by kernel_rfl
theorem fok_159 : fnOk Tryz.prog 159 = true := by kernel_rfl
theorem zer_217 : zeroT Tryz.prog 217 = some (.agg #[.int .u8 0, .int .u8 0, .int .u8 0, .int .u8 0, .int .u8 0, .int .u8 0, .int .u8 0, .int .u8 0, .int .u8 0, .int .u8 0, .int .u8 0, .int .u8 0, .int .u8 0, .int .u8 0, .int .u8 0, .int .u8 0, .int .u8 0, .int .u8 0, .int .u8 0, .int .u8 0, .int .u8 0, .int .u8 0, .int .u8 0, .int .u8 0]) := by kernel_rfl
theorem som_2 : (Tryz.prog.underlying 2).isSome = true := by kernel_rfl
theorem und_218 : Tryz.prog.underlying 218 = some (.int .u64) := by kernel_rfl
theorem fok_119 : fnOk Tryz.prog 119 = true := by kernel_rfl
theorem fok_77 : fnOk Tryz.prog 77 = true := by kernel_rfl
theorem fok_76 : fnOk Tryz.prog 76 = true := by kernel_rfl
theorem fok_38 : fnOk Tryz.prog 38 = true := by kernel_rfl
theorem fok_39 : fnOk Tryz.prog 39 = true := by kernel_rfl
theorem fld_23_0 : fieldOf Tryz.prog 23 0 = some (0, 1, false) := by kernel_rfl
theorem agg_3 : aggT Tryz.prog 3 = some false := by kernel_rfl
theorem fld_23_1 : fieldOf Tryz.prog 23 1 = some (1, 1, false) := by kernel_rfl
theorem agg_5 : aggT Tryz.prog 5 = some false := by kernel_rfl
theorem fok_37 : fnOk Tryz.prog 37 = true := by kernel_rfl
theorem und_83 : Tryz.prog.underlying 83 = some (.array 17 9) := by kernel_rfl
theorem siz_9 : sizeT Tryz.prog 9 = some 1 := by kernel_rfl
theorem agg_9 : aggT Tryz.prog 9 = some false := by kernel_rfl
theorem zer_23 : zeroT Tryz.prog 23 = some (.agg #[.int .i64 0, .int .u8 0]) := by kernel_rfl
theorem plc_23 : placesOf Tryz.prog 23 = some [(0, 1), (1, 1)] := by kernel_rfl
theorem fok_9 : fnOk Tryz.prog 9 = true := by kernel_rfl
theorem siz_23 : sizeT Tryz.prog 23 = some 2 := by kernel_rfl
theorem som_3 : (Tryz.prog.underlying 3).isSome = true := by kernel_rfl
theorem agg_23 : aggT Tryz.prog 23 = some true := by kernel_rfl
theorem fld_95_0 : fieldOf Tryz.prog 95 0 = some (0, 1, false) := by kernel_rfl
theorem fld_95_2 : fieldOf Tryz.prog 95 2 = some (2, 1, false) := by kernel_rfl
theorem siz_3 : sizeT Tryz.prog 3 = some 1 := by kernel_rfl
theorem fld_95_1 : fieldOf Tryz.prog 95 1 = some (1, 1, false) := by kernel_rfl
theorem siz_52 : sizeT Tryz.prog 52 = some 1 := by kernel_rfl
theorem fok_47 : fnOk Tryz.prog 47 = true := by kernel_rfl
theorem fok_21 : fnOk Tryz.prog 21 = true := by kernel_rfl
theorem fld_54_1 : fieldOf Tryz.prog 54 1 = some (1, 1, false) := by kernel_rfl
theorem agg_4 : aggT Tryz.prog 4 = some false := by kernel_rfl
theorem fld_97_1 : fieldOf Tryz.prog 97 1 = some (1, 3, true) := by kernel_rfl
theorem fok_43 : fnOk Tryz.prog 43 = true := by kernel_rfl
theorem fld_97_2 : fieldOf Tryz.prog 97 2 = some (4, 1, false) := by kernel_rfl
theorem siz_4 : sizeT Tryz.prog 4 = some 1 := by kernel_rfl
theorem fld_97_3 : fieldOf Tryz.prog 97 3 = some (5, 1, false) := by kernel_rfl
theorem siz_5 : sizeT Tryz.prog 5 = some 1 := by kernel_rfl
theorem fld_124_2 : fieldOf Tryz.prog 124 2 = some (5, 1, false) := by kernel_rfl
theorem agg_70 : aggT Tryz.prog 70 = some false := by kernel_rfl
theorem fok_10 : fnOk Tryz.prog 10 = true := by kernel_rfl
theorem fld_33_0 : fieldOf Tryz.prog 33 0 = some (0, 1, false) := by kernel_rfl
theorem fld_33_1 : fieldOf Tryz.prog 33 1 = some (1, 1, false) := by kernel_rfl
theorem agg_33 : aggT Tryz.prog 33 = some true := by kernel_rfl
theorem siz_33 : sizeT Tryz.prog 33 = some 2 := by kernel_rfl
theorem fok_73 : fnOk Tryz.prog 73 = true := by kernel_rfl
theorem und_37 : Tryz.prog.underlying 37 = some (.slice 80) := by kernel_rfl
theorem inf_80 : elemInfo Tryz.prog 80 = some (5, 5, 5) := by kernel_rfl
theorem zer_80 : zeroT Tryz.prog 80 = some (.agg #[.int .u8 0, .bool false, .bool false, .int .u8 0, .int .u8 0]) := by kernel_rfl
theorem zer_126 : zeroT Tryz.prog 126 = some (.agg #[.int .i64 0, .int .i64 0, .slice none 0 0, .int .i64 0]) := by kernel_rfl
theorem plc_126 : placesOf Tryz.prog 126 = some [(0, 2), (2, 1), (3, 1)] := by kernel_rfl
theorem fld_124_1 : fieldOf Tryz.prog 124 1 = some (4, 1, false) := by kernel_rfl
theorem fld_124_0 : fieldOf Tryz.prog 124 0 = some (0, 4, true) := by kernel_rfl
theorem und_122 : Tryz.prog.underlying 122 = some (.array 2 33) := by kernel_rfl
theorem siz_70 : sizeT Tryz.prog 70 = some 1 := by kernel_rfl
theorem fok_158 : fnOk Tryz.prog 158 = true := by kernel_rfl
theorem fok_118 : fnOk Tryz.prog 118 = true := by kernel_rfl
theorem fok_28 : fnOk Tryz.prog 28 = true := by kernel_rfl
theorem fok_94 : fnOk Tryz.prog 94 = true := by kernel_rfl
theorem fld_97_0 : fieldOf Tryz.prog 97 0 = some (0, 1, false) := by kernel_rfl
theorem agg_35 : aggT Tryz.prog 35 = some false := by kernel_rfl
theorem fok_74 : fnOk Tryz.prog 74 = true := by kernel_rfl
theorem fld_126_2 : fieldOf Tryz.prog 126 2 = some (3, 1, false) := by kernel_rfl
theorem fld_126_1 : fieldOf Tryz.prog 126 1 = some (2, 1, false) := by kernel_rfl
theorem agg_37 : aggT Tryz.prog 37 = some false := by kernel_rfl
theorem fok_75 : fnOk Tryz.prog 75 = true := by kernel_rfl
theorem fok_135 : fnOk Tryz.prog 135 = true := by kernel_rfl
theorem plc_80 : placesOf Tryz.prog 80 = some [(0, 1), (1, 1), (2, 1), (3, 1), (4, 1)] := by kernel_rfl
theorem siz_80 : sizeT Tryz.prog 80 = some 5 := by kernel_rfl
theorem agg_80 : aggT Tryz.prog 80 = some true := by kernel_rfl
theorem zer_33 : zeroT Tryz.prog 33 = some (.agg #[.int .i64 0, .int .i64 0]) := by kernel_rfl
theorem fld_126_0 : fieldOf Tryz.prog 126 0 = some (0, 2, true) := by kernel_rfl
theorem fok_66 : fnOk Tryz.prog 66 = true := by kernel_rfl
theorem fok_147 : fnOk Tryz.prog 147 = true := by kernel_rfl
theorem fok_176 : fnOk Tryz.prog 176 = true := by kernel_rfl
theorem fok_36 : fnOk Tryz.prog 36 = true := by kernel_rfl
theorem fld_80_2 : fieldOf Tryz.prog 80 2 = some (2, 1, false) := by kernel_rfl
theorem fok_217 : fnOk Tryz.prog 217 = true := by kernel_rfl
theorem zer_193 : zeroT Tryz.prog 193 = some (.agg #[.int .i64 0, .int .i64 0, .int .u8 0]) := by kernel_rfl
theorem fok_199 : fnOk Tryz.prog 199 = true := by kernel_rfl
theorem fld_80_0 : fieldOf Tryz.prog 80 0 = some (0, 1, false) := by kernel_rfl
theorem plc_193 : placesOf Tryz.prog 193 = some [(0, 1), (1, 1), (2, 1)] := by kernel_rfl
theorem siz_193 : sizeT Tryz.prog 193 = some 3 := by kernel_rfl
theorem agg_193 : aggT Tryz.prog 193 = some true := by kernel_rfl
theorem fok_181 : fnOk Tryz.prog 181 = true := by kernel_rfl
theorem fok_174 : fnOk Tryz.prog 174 = true := by kernel_rfl
theorem fok_143 : fnOk Tryz.prog 143 = true := by kernel_rfl
theorem fld_193_0 : fieldOf Tryz.prog 193 0 = some (0, 1, false) := by kernel_rfl
theorem fld_193_1 : fieldOf Tryz.prog 193 1 = some (1, 1, false) := by kernel_rfl
theorem fld_193_2 : fieldOf Tryz.prog 193 2 = some (2, 1, false) := by kernel_rfl
theorem fok_133 : fnOk Tryz.prog 133 = true := by kernel_rfl
theorem fok_145 : fnOk Tryz.prog 145 = true := by kernel_rfl
theorem fok_144 : fnOk Tryz.prog 144 = true := by kernel_rfl
theorem fok_68 : fnOk Tryz.prog 68 = true := by kernel_rfl
theorem fok_142 : fnOk Tryz.prog 142 = true := by kernel_rfl
theorem fok_141 : fnOk Tryz.prog 141 = true := by kernel_rfl
theorem fok_146 : fnOk Tryz.prog 146 = true := by kernel_rfl
theorem fok_131 : fnOk Tryz.prog 131 = true := by kernel_rfl
theorem zer_3 : zeroT Tryz.prog 3 = some (.int .i64 0) := by kernel_rfl
theorem fok_125 : fnOk Tryz.prog 125 = true := by kernel_rfl
theorem fok_173 : fnOk Tryz.prog 173 = true := by kernel_rfl
theorem fok_136 : fnOk Tryz.prog 136 = true := by kernel_rfl
theorem fok_95 : fnOk Tryz.prog 95 = true := by kernel_rfl
theorem fok_96 : fnOk Tryz.prog 96 = true := by kernel_rfl
theorem fok_97 : fnOk Tryz.prog 97 = true := by kernel_rfl
theorem fok_98 : fnOk Tryz.prog 98 = true := by kernel_rfl
theorem fok_99 : fnOk Tryz.prog 99 = true := by kernel_rfl
theorem fok_132 : fnOk Tryz.prog 132 = true := by kernel_rfl
theorem fok_134 : fnOk Tryz.prog 134 = true := by kernel_rfl
theorem fok_218 : fnOk Tryz.prog 218 = true := by kernel_rfl
theorem fok_182 : fnOk Tryz.prog 182 = true := by kernel_rfl
theorem fok_183 : fnOk Tryz.prog 183 = true := by kernel_rfl
theorem zer_160 : zeroT Tryz.prog 160 = some (.slice none 0 0) := by kernel_rfl
theorem agg_160 : aggT Tryz.prog 160 = some false := by kernel_rfl
theorem und_160 : Tryz.prog.underlying 160 = some (.slice 3) := by kernel_rfl
theorem inf_3 : elemInfo Tryz.prog 3 = some (1, 8, 1) := by kernel_rfl
theorem siz_160 : sizeT Tryz.prog 160 = some 1 := by kernel_rfl
theorem fok_188 : fnOk Tryz.prog 188 = true := by kernel_rfl
theorem fok_220 : fnOk Tryz.prog 220 = true := by kernel_rfl
theorem fok_153 : fnOk Tryz.prog 153 = true := by kernel_rfl
theorem fld_80_1 : fieldOf Tryz.prog 80 1 = some (1, 1, false) := by kernel_rfl
theorem fok_185 : fnOk Tryz.prog 185 = true := by kernel_rfl
theorem fok_184 : fnOk Tryz.prog 184 = true := by kernel_rfl
theorem fok_127 : fnOk Tryz.prog 127 = true := by kernel_rfl
theorem fok_186 : fnOk Tryz.prog 186 = true := by kernel_rfl
theorem fok_148 : fnOk Tryz.prog 148 = true := by kernel_rfl
theorem fok_149 : fnOk Tryz.prog 149 = true := by kernel_rfl
theorem fld_80_3 : fieldOf Tryz.prog 80 3 = some (3, 1, false) := by kernel_rfl
theorem fld_80_4 : fieldOf Tryz.prog 80 4 = some (4, 1, false) := by kernel_rfl
theorem fok_150 : fnOk Tryz.prog 150 = true := by kernel_rfl
theorem fok_151 : fnOk Tryz.prog 151 = true := by kernel_rfl
theorem fok_219 : fnOk Tryz.prog 219 = true := by kernel_rfl
theorem fok_229 : fnOk Tryz.prog 229 = true := by kernel_rfl
theorem fok_187 : fnOk Tryz.prog 187 = true := by kernel_rfl
theorem fok_152 : fnOk Tryz.prog 152 = true := by kernel_rfl
theorem fok_100 : fnOk Tryz.prog 100 = true := by kernel_rfl
theorem fok_26 : fnOk Tryz.prog 26 = true := by kernel_rfl
theorem fok_101 : fnOk Tryz.prog 101 = true := by kernel_rfl
theorem fok_87 : fnOk Tryz.prog 87 = true := by kernel_rfl
theorem fok_102 : fnOk Tryz.prog 102 = true := by kernel_rfl
theorem fok_103 : fnOk Tryz.prog 103 = true := by kernel_rfl
theorem fok_104 : fnOk Tryz.prog 104 = true := by kernel_rfl
theorem fok_48 : fnOk Tryz.prog 48 = true := by kernel_rfl
theorem fok_49 : fnOk Tryz.prog 49 = true := by kernel_rfl
theorem fok_50 : fnOk Tryz.prog 50 = true := by kernel_rfl
theorem fok_51 : fnOk Tryz.prog 51 = true := by kernel_rfl
theorem fok_53 : fnOk Tryz.prog 53 = true := by kernel_rfl
theorem fok_52 : fnOk Tryz.prog 52 = true := by kernel_rfl
theorem zer_122 : zeroT Tryz.prog 122 = some (.agg #[.int .i64 0, .int .i64 0, .int .i64 0, .int .i64 0]) := by kernel_rfl
theorem zer_124 : zeroT Tryz.prog 124 = some (.agg #[.int .i64 0, .int .i64 0, .int .i64 0, .int .i64 0, .int .i64 0, .pointer none]) := by kernel_rfl
theorem plc_124 : placesOf Tryz.prog 124 = some [(0, 4), (4, 1), (5, 1)] := by kernel_rfl
theorem zer_97 : zeroT Tryz.prog 97 = some (.agg #[.pointer none, .int .i64 0, .int .i64 0, .int .i64 0, .bool false, .int .u8 0]) := by kernel_rfl
theorem plc_97 : placesOf Tryz.prog 97 = some [(0, 1), (1, 3), (4, 1), (5, 1)] := by kernel_rfl
theorem plc_33 : placesOf Tryz.prog 33 = some [(0, 1), (1, 1)] := by kernel_rfl
theorem und_35 : Tryz.prog.underlying 35 = some (.pointer 124) := by kernel_rfl
theorem fok_35 : fnOk Tryz.prog 35 = true := by kernel_rfl
theorem und_36 : Tryz.prog.underlying 36 = some (.pointer 97) := by kernel_rfl
theorem fok_20 : fnOk Tryz.prog 20 = true := by kernel_rfl
theorem und_62 : Tryz.prog.underlying 62 = some (.pointer 95) := by kernel_rfl
theorem und_70 : Tryz.prog.underlying 70 = some (.pointer 126) := by kernel_rfl
theorem fok_23 : fnOk Tryz.prog 23 = true := by kernel_rfl
theorem fok_30 : fnOk Tryz.prog 30 = true := by kernel_rfl
theorem fok_32 : fnOk Tryz.prog 32 = true := by kernel_rfl
theorem zer_54 : zeroT Tryz.prog 54 = some (.agg #[.int .u8 0, .bool false, .bool false, .int .i64 0]) := by kernel_rfl
theorem plc_54 : placesOf Tryz.prog 54 = some [(0, 1), (1, 1), (2, 1), (3, 1)] := by kernel_rfl
theorem fok_17 : fnOk Tryz.prog 17 = true := by kernel_rfl
theorem fok_12 : fnOk Tryz.prog 12 = true := by kernel_rfl
theorem eqg_23 : Tryz.prog.eqGuardType Tryz.prog.depth 23 = false := by kernel_rfl
theorem fok_13 : fnOk Tryz.prog 13 = true := by kernel_rfl
theorem fok_34 : fnOk Tryz.prog 34 = true := by kernel_rfl
theorem zer_39 : zeroT Tryz.prog 39 = some (.agg #[.int .i64 0, .int .i64 0, .slice none 0 0, .int .i64 0]) := by kernel_rfl
theorem fok_78 : fnOk Tryz.prog 78 = true := by kernel_rfl
theorem plc_39 : placesOf Tryz.prog 39 = some [(0, 2), (2, 1), (3, 1)] := by kernel_rfl
theorem siz_39 : sizeT Tryz.prog 39 = some 4 := by kernel_rfl
theorem agg_39 : aggT Tryz.prog 39 = some true := by kernel_rfl
theorem zer_41 : zeroT Tryz.prog 41 = some (.agg #[.int .i64 0, .int .i64 0, .int .i64 0, .int .i64 0, .int .i64 0, .int .i64 0, .slice none 0 0, .int .i64 0, .bool false]) := by kernel_rfl
theorem fld_41_3 : fieldOf Tryz.prog 41 3 = some (8, 1, false) := by kernel_rfl
theorem fld_41_0 : fieldOf Tryz.prog 41 0 = some (0, 2, true) := by kernel_rfl
theorem fok_105 : fnOk Tryz.prog 105 = true := by kernel_rfl
theorem fld_41_2 : fieldOf Tryz.prog 41 2 = some (4, 4, true) := by kernel_rfl
theorem fld_41_1 : fieldOf Tryz.prog 41 1 = some (2, 2, true) := by kernel_rfl
theorem agg_41 : aggT Tryz.prog 41 = some true := by kernel_rfl
theorem siz_41 : sizeT Tryz.prog 41 = some 9 := by kernel_rfl
theorem plc_41 : placesOf Tryz.prog 41 = some [(0, 2), (2, 2), (4, 4), (8, 1)] := by kernel_rfl
theorem fok_54 : fnOk Tryz.prog 54 = true := by kernel_rfl
theorem zer_45 : zeroT Tryz.prog 45 = some (.agg #[.int .i64 0, .int .i64 0, .int .i64 0, .int .i64 0, .int .i64 0, .int .i64 0, .slice none 0 0, .int .i64 0, .bool false, .int .i64 0, .int .i64 0, .int .i64 0, .bool false, .int .u8 0]) := by kernel_rfl
theorem fok_40 : fnOk Tryz.prog 40 = true := by kernel_rfl
theorem plc_45 : placesOf Tryz.prog 45 = some [(0, 9), (9, 3), (12, 1), (13, 1)] := by kernel_rfl
theorem siz_45 : sizeT Tryz.prog 45 = some 14 := by kernel_rfl
theorem agg_45 : aggT Tryz.prog 45 = some true := by kernel_rfl
theorem und_34 : Tryz.prog.underlying 34 = some (.slice 51) := by kernel_rfl
theorem siz_51 : sizeT Tryz.prog 51 = some 4 := by kernel_rfl
theorem agg_51 : aggT Tryz.prog 51 = some true := by kernel_rfl
theorem zer_51 : zeroT Tryz.prog 51 = some (.agg #[.int .i64 0, .int .i64 0, .int .u8 0, .slice none 0 0]) := by kernel_rfl
theorem fld_51_2 : fieldOf Tryz.prog 51 2 = some (3, 1, false) := by kernel_rfl
theorem agg_49 : aggT Tryz.prog 49 = some false := by kernel_rfl
theorem und_49 : Tryz.prog.underlying 49 = some (.slice 5) := by kernel_rfl
theorem zer_132 : zeroT Tryz.prog 132 = some (.agg #[.int .u8 0, .int .u8 0, .string ⟨#[]⟩]) := by kernel_rfl
theorem plc_132 : placesOf Tryz.prog 132 = some [(0, 1), (1, 1), (2, 1)] := by kernel_rfl
theorem und_173 : Tryz.prog.underlying 173 = some (.slice 132) := by kernel_rfl
theorem siz_132 : sizeT Tryz.prog 132 = some 3 := by kernel_rfl
theorem fok_120 : fnOk Tryz.prog 120 = true := by kernel_rfl
theorem agg_132 : aggT Tryz.prog 132 = some true := by kernel_rfl
theorem fld_132_0 : fieldOf Tryz.prog 132 0 = some (0, 1, false) := by kernel_rfl
theorem fld_132_1 : fieldOf Tryz.prog 132 1 = some (1, 1, false) := by kernel_rfl
theorem zer_5 : zeroT Tryz.prog 5 = some (.int .u8 0) := by kernel_rfl
theorem inf_5 : elemInfo Tryz.prog 5 = some (1, 1, 1) := by kernel_rfl
theorem zer_182 : zeroT Tryz.prog 182 = some (.agg #[.int .u8 0, .int .i64 0, .int .u8 0, .bool false, .slice none 0 0, .slice none 0 0]) := by kernel_rfl
theorem fld_177_1 : fieldOf Tryz.prog 177 1 = some (1, 1, false) := by kernel_rfl
theorem fld_177_0 : fieldOf Tryz.prog 177 0 = some (0, 1, false) := by kernel_rfl
theorem fok_163 : fnOk Tryz.prog 163 = true := by kernel_rfl
theorem fok_195 : fnOk Tryz.prog 195 = true := by kernel_rfl
theorem plc_182 : placesOf Tryz.prog 182 = some [(0, 1), (1, 1), (2, 1), (3, 1), (4, 1), (5, 1)] := by kernel_rfl
theorem siz_182 : sizeT Tryz.prog 182 = some 6 := by kernel_rfl
theorem agg_182 : aggT Tryz.prog 182 = some true := by kernel_rfl
theorem zer_179 : zeroT Tryz.prog 179 = some (.agg #[.int .i64 0]) := by kernel_rfl
theorem plc_179 : placesOf Tryz.prog 179 = some [(0, 1)] := by kernel_rfl
theorem nif_179 : notIf Tryz.prog 179 = true := by kernel_rfl
theorem fok_223 : fnOk Tryz.prog 223 = true := by kernel_rfl
theorem fok_196 : fnOk Tryz.prog 196 = true := by kernel_rfl
theorem fok_165 : fnOk Tryz.prog 165 = true := by kernel_rfl
theorem fld_252_0 : fieldOf Tryz.prog 252 0 = some (0, 1, false) := by kernel_rfl
theorem fld_252_1 : fieldOf Tryz.prog 252 1 = some (1, 1, false) := by kernel_rfl
theorem zer_252 : zeroT Tryz.prog 252 = some (.agg #[.int .u8 0, .int .u8 0]) := by kernel_rfl
theorem plc_252 : placesOf Tryz.prog 252 = some [(0, 1), (1, 1)] := by kernel_rfl
theorem siz_252 : sizeT Tryz.prog 252 = some 2 := by kernel_rfl
theorem agg_252 : aggT Tryz.prog 252 = some true := by kernel_rfl
theorem fok_197 : fnOk Tryz.prog 197 = true := by kernel_rfl
theorem und_180 : Tryz.prog.underlying 180 = some (.slice 252) := by kernel_rfl
theorem inf_252 : elemInfo Tryz.prog 252 = some (2, 2, 2) := by kernel_rfl
theorem fld_182_2 : fieldOf Tryz.prog 182 2 = some (2, 1, false) := by kernel_rfl
theorem fld_182_3 : fieldOf Tryz.prog 182 3 = some (3, 1, false) := by kernel_rfl
theorem fok_169 : fnOk Tryz.prog 169 = true := by kernel_rfl
theorem fok_166 : fnOk Tryz.prog 166 = true := by kernel_rfl
theorem fok_164 : fnOk Tryz.prog 164 = true := by kernel_rfl
theorem fok_167 : fnOk Tryz.prog 167 = true := by kernel_rfl
theorem fok_168 : fnOk Tryz.prog 168 = true := by kernel_rfl
theorem zer_52 : zeroT Tryz.prog 52 = some (.int .i64 0) := by kernel_rfl
theorem zer_177 : zeroT Tryz.prog 177 = some (.agg #[.slice none 0 0, .int .i64 0]) := by kernel_rfl
theorem plc_177 : placesOf Tryz.prog 177 = some [(0, 1), (1, 1)] := by kernel_rfl
theorem und_87 : Tryz.prog.underlying 87 = some (.slice 182) := by kernel_rfl
theorem inf_182 : elemInfo Tryz.prog 182 = some (6, 72, 6) := by kernel_rfl
theorem ifc_20 : isIf Tryz.prog 20 = true := by kernel_rfl
theorem siz_179 : sizeT Tryz.prog 179 = some 1 := by kernel_rfl
theorem fld_179_0 : fieldOf Tryz.prog 179 0 = some (0, 1, false) := by kernel_rfl
theorem agg_52 : aggT Tryz.prog 52 = some false := by kernel_rfl
theorem fok_122 : fnOk Tryz.prog 122 = true := by kernel_rfl
theorem fok_121 : fnOk Tryz.prog 121 = true := by kernel_rfl
theorem zer_187 : zeroT Tryz.prog 187 = some (.agg #[.int .u8 0, .int .u8 0, .int .u8 0, .int .u8 0, .slice none 0 0, .int .i64 0, .slice none 0 0]) := by kernel_rfl
theorem plc_187 : placesOf Tryz.prog 187 = some [(0, 1), (1, 1), (2, 5)] := by kernel_rfl
theorem siz_187 : sizeT Tryz.prog 187 = some 7 := by kernel_rfl
theorem agg_187 : aggT Tryz.prog 187 = some true := by kernel_rfl
theorem fok_80 : fnOk Tryz.prog 80 = true := by kernel_rfl
theorem zer_90 : zeroT Tryz.prog 90 = some (.agg #[.int .u8 0, .int .u8 0, .slice none 0 0, .int .i64 0, .slice none 0 0]) := by kernel_rfl
theorem plc_90 : placesOf Tryz.prog 90 = some [(0, 1), (1, 1), (2, 1), (3, 1), (4, 1)] := by kernel_rfl
theorem siz_90 : sizeT Tryz.prog 90 = some 5 := by kernel_rfl
theorem fok_79 : fnOk Tryz.prog 79 = true := by kernel_rfl
theorem fld_90_1 : fieldOf Tryz.prog 90 1 = some (1, 1, false) := by kernel_rfl
theorem fok_81 : fnOk Tryz.prog 81 = true := by kernel_rfl
theorem fld_90_2 : fieldOf Tryz.prog 90 2 = some (2, 1, false) := by kernel_rfl
theorem siz_87 : sizeT Tryz.prog 87 = some 1 := by kernel_rfl
theorem fld_90_3 : fieldOf Tryz.prog 90 3 = some (3, 1, false) := by kernel_rfl
theorem agg_90 : aggT Tryz.prog 90 = some true := by kernel_rfl
theorem fok_41 : fnOk Tryz.prog 41 = true := by kernel_rfl
theorem fld_90_0 : fieldOf Tryz.prog 90 0 = some (0, 1, false) := by kernel_rfl
theorem fok_198 : fnOk Tryz.prog 198 = true := by kernel_rfl
theorem fok_170 : fnOk Tryz.prog 170 = true := by kernel_rfl
theorem fok_171 : fnOk Tryz.prog 171 = true := by kernel_rfl
theorem fok_172 : fnOk Tryz.prog 172 = true := by kernel_rfl
theorem fok_123 : fnOk Tryz.prog 123 = true := by kernel_rfl
theorem fok_124 : fnOk Tryz.prog 124 = true := by kernel_rfl
theorem und_88 : Tryz.prog.underlying 88 = some (.slice 187) := by kernel_rfl
theorem inf_187 : elemInfo Tryz.prog 187 = some (7, 72, 7) := by kernel_rfl
theorem fok_82 : fnOk Tryz.prog 82 = true := by kernel_rfl
theorem fld_90_4 : fieldOf Tryz.prog 90 4 = some (4, 1, false) := by kernel_rfl
theorem siz_88 : sizeT Tryz.prog 88 = some 1 := by kernel_rfl
theorem fok_126 : fnOk Tryz.prog 126 = true := by kernel_rfl
theorem fld_229_0 : fieldOf Tryz.prog 229 0 = some (0, 1, false) := by kernel_rfl
theorem fld_229_1 : fieldOf Tryz.prog 229 1 = some (1, 1, false) := by kernel_rfl
theorem fok_230 : fnOk Tryz.prog 230 = true := by kernel_rfl
theorem fld_229_2 : fieldOf Tryz.prog 229 2 = some (2, 5, true) := by kernel_rfl
theorem fld_182_5 : fieldOf Tryz.prog 182 5 = some (5, 1, false) := by kernel_rfl
theorem fok_225 : fnOk Tryz.prog 225 = true := by kernel_rfl
theorem fok_224 : fnOk Tryz.prog 224 = true := by kernel_rfl
theorem fld_182_1 : fieldOf Tryz.prog 182 1 = some (1, 1, false) := by kernel_rfl
theorem fld_182_0 : fieldOf Tryz.prog 182 0 = some (0, 1, false) := by kernel_rfl
theorem fld_182_4 : fieldOf Tryz.prog 182 4 = some (4, 1, false) := by kernel_rfl
theorem agg_180 : aggT Tryz.prog 180 = some false := by kernel_rfl
theorem fok_226 : fnOk Tryz.prog 226 = true := by kernel_rfl
theorem fld_229_3 : fieldOf Tryz.prog 229 3 = some (7, 1, false) := by kernel_rfl
theorem fok_227 : fnOk Tryz.prog 227 = true := by kernel_rfl
theorem fok_202 : fnOk Tryz.prog 202 = true := by kernel_rfl
theorem agg_227 : aggT Tryz.prog 227 = some false := by kernel_rfl
theorem fok_200 : fnOk Tryz.prog 200 = true := by kernel_rfl
theorem fok_201 : fnOk Tryz.prog 201 = true := by kernel_rfl
theorem fok_203 : fnOk Tryz.prog 203 = true := by kernel_rfl
theorem fok_204 : fnOk Tryz.prog 204 = true := by kernel_rfl
theorem fok_205 : fnOk Tryz.prog 205 = true := by kernel_rfl
theorem fok_206 : fnOk Tryz.prog 206 = true := by kernel_rfl
theorem fok_207 : fnOk Tryz.prog 207 = true := by kernel_rfl
theorem fok_208 : fnOk Tryz.prog 208 = true := by kernel_rfl
theorem fok_209 : fnOk Tryz.prog 209 = true := by kernel_rfl
theorem zer_229 : zeroT Tryz.prog 229 = some (.agg #[.pointer none, .int .i64 0, .int .u8 0, .bool false, .bool false, .int .u8 0, .int .u8 0, .bool false]) := by kernel_rfl
theorem plc_229 : placesOf Tryz.prog 229 = some [(0, 1), (1, 1), (2, 5), (7, 1)] := by kernel_rfl
theorem fok_175 : fnOk Tryz.prog 175 = true := by kernel_rfl
theorem agg_87 : aggT Tryz.prog 87 = some false := by kernel_rfl
theorem fok_128 : fnOk Tryz.prog 128 = true := by kernel_rfl
theorem siz_54 : sizeT Tryz.prog 54 = some 4 := by kernel_rfl
theorem fok_129 : fnOk Tryz.prog 129 = true := by kernel_rfl
theorem fok_130 : fnOk Tryz.prog 130 = true := by kernel_rfl
theorem agg_54 : aggT Tryz.prog 54 = some true := by kernel_rfl
theorem fok_85 : fnOk Tryz.prog 85 = true := by kernel_rfl
theorem fok_83 : fnOk Tryz.prog 83 = true := by kernel_rfl
theorem fok_84 : fnOk Tryz.prog 84 = true := by kernel_rfl
theorem fok_86 : fnOk Tryz.prog 86 = true := by kernel_rfl
theorem fld_187_0 : fieldOf Tryz.prog 187 0 = some (0, 1, false) := by kernel_rfl
theorem fld_187_1 : fieldOf Tryz.prog 187 1 = some (1, 1, false) := by kernel_rfl
theorem fok_177 : fnOk Tryz.prog 177 = true := by kernel_rfl
theorem fld_187_2 : fieldOf Tryz.prog 187 2 = some (2, 5, true) := by kernel_rfl
theorem fok_42 : fnOk Tryz.prog 42 = true := by kernel_rfl
theorem fld_54_0 : fieldOf Tryz.prog 54 0 = some (0, 1, false) := by kernel_rfl
theorem agg_88 : aggT Tryz.prog 88 = some false := by kernel_rfl
theorem fok_137 : fnOk Tryz.prog 137 = true := by kernel_rfl
theorem fld_54_3 : fieldOf Tryz.prog 54 3 = some (3, 1, false) := by kernel_rfl
theorem fld_54_2 : fieldOf Tryz.prog 54 2 = some (2, 1, false) := by kernel_rfl
theorem fok_88 : fnOk Tryz.prog 88 = true := by kernel_rfl
theorem fok_71 : fnOk Tryz.prog 71 = true := by kernel_rfl
theorem eqg_80 : Tryz.prog.eqGuardType Tryz.prog.depth 80 = false := by kernel_rfl
theorem eqg_33 : Tryz.prog.eqGuardType Tryz.prog.depth 33 = false := by kernel_rfl
theorem fok_72 : fnOk Tryz.prog 72 = true := by kernel_rfl
theorem fok_7 : fnOk Tryz.prog 7 = true := by kernel_rfl
theorem fok_15 : fnOk Tryz.prog 15 = true := by kernel_rfl
theorem fld_51_0 : fieldOf Tryz.prog 51 0 = some (0, 1, false) := by kernel_rfl
theorem fok_16 : fnOk Tryz.prog 16 = true := by kernel_rfl
theorem fok_22 : fnOk Tryz.prog 22 = true := by kernel_rfl
theorem fld_51_1 : fieldOf Tryz.prog 51 1 = some (1, 2, true) := by kernel_rfl
theorem fok_27 : fnOk Tryz.prog 27 = true := by kernel_rfl
theorem fok_33 : fnOk Tryz.prog 33 = true := by kernel_rfl
theorem fok_31 : fnOk Tryz.prog 31 = true := by kernel_rfl
theorem und_4 : Tryz.prog.underlying 4 = some (.bool) := by kernel_rfl
theorem fok_14 : fnOk Tryz.prog 14 = true := by kernel_rfl
theorem eqa_23 (x y : keyboard_Key) : eqT Tryz.prog 10000 23 (.agg [.int .i64 x.f_Kind, vB x.f_Byte].toArray) (.agg [.int .i64 y.f_Kind, vB y.f_Byte].toArray) = some (decide (x = y)) := by
  have h : eqT Tryz.prog 10000 23 (.agg [.int .i64 x.f_Kind, vB x.f_Byte].toArray) (.agg [.int .i64 y.f_Kind, vB y.f_Byte].toArray) = some ((x.f_Kind == y.f_Kind) && ((((x.f_Byte).toNat : Int) == ((y.f_Byte).toNat : Int)) && true)) := by kernel_rfl
  rw [h]
  congr 1
  rw [Bool.eq_iff_iff]
  simp only [Bool.and_eq_true, beq_iff_eq, decide_eq_true_eq, and_true, Int.ofNat_inj, UInt8.toNat_inj, keyboard_Key.mk.injEq, struct_ext_keyboard_Key]
theorem eqa_80 (x y : api_Cell) : eqT Tryz.prog 10000 80 (.agg [vB x.f_Byte, .bool x.f_GE, .bool x.f_Start, vB x.f_Light, vB x.f_Color].toArray) (.agg [vB y.f_Byte, .bool y.f_GE, .bool y.f_Start, vB y.f_Light, vB y.f_Color].toArray) = some (decide (x = y)) := by
  have h : eqT Tryz.prog 10000 80 (.agg [vB x.f_Byte, .bool x.f_GE, .bool x.f_Start, vB x.f_Light, vB x.f_Color].toArray) (.agg [vB y.f_Byte, .bool y.f_GE, .bool y.f_Start, vB y.f_Light, vB y.f_Color].toArray) = some ((((x.f_Byte).toNat : Int) == ((y.f_Byte).toNat : Int)) && ((x.f_GE == y.f_GE) && ((x.f_Start == y.f_Start) && ((((x.f_Light).toNat : Int) == ((y.f_Light).toNat : Int)) && ((((x.f_Color).toNat : Int) == ((y.f_Color).toNat : Int)) && true))))) := by kernel_rfl
  rw [h]
  congr 1
  rw [Bool.eq_iff_iff]
  simp only [Bool.and_eq_true, beq_iff_eq, decide_eq_true_eq, and_true, Int.ofNat_inj, UInt8.toNat_inj, api_Cell.mk.injEq, struct_ext_api_Cell]
theorem eqa_33 (x y : api_Size) : eqT Tryz.prog 10000 33 (.agg [.int .i64 x.f_Rows, .int .i64 x.f_Cols].toArray) (.agg [.int .i64 y.f_Rows, .int .i64 y.f_Cols].toArray) = some (decide (x = y)) := by
  have h : eqT Tryz.prog 10000 33 (.agg [.int .i64 x.f_Rows, .int .i64 x.f_Cols].toArray) (.agg [.int .i64 y.f_Rows, .int .i64 y.f_Cols].toArray) = some ((x.f_Rows == y.f_Rows) && ((x.f_Cols == y.f_Cols) && true)) := by kernel_rfl
  rw [h]
  congr 1
  rw [Bool.eq_iff_iff]
  simp only [Bool.and_eq_true, beq_iff_eq, decide_eq_true_eq, and_true, Int.ofNat_inj, UInt8.toNat_inj, api_Size.mk.injEq, struct_ext_api_Size]

-- internal/strconv.small
def internal_strconv_small_m (a0 : Int) : Option ((List UInt8)) := (if a0 < 10 then (sub ([48, 49, 50, 51, 52, 53, 54, 55, 56, 57, 97, 98, 99, 100, 101, 102, 103, 104, 105, 106, 107, 108, 109, 110, 111, 112, 113, 114, 115, 116, 117, 118, 119, 120, 121, 122] : List UInt8) a0 (w64 (a0 + 1))).bind fun r2 => some r2 else (sub ([48, 48, 48, 49, 48, 50, 48, 51, 48, 52, 48, 53, 48, 54, 48, 55, 48, 56, 48, 57, 49, 48, 49, 49, 49, 50, 49, 51, 49, 52, 49, 53, 49, 54, 49, 55, 49, 56, 49, 57, 50, 48, 50, 49, 50, 50, 50, 51, 50, 52, 50, 53, 50, 54, 50, 55, 50, 56, 50, 57, 51, 48, 51, 49, 51, 50, 51, 51, 51, 52, 51, 53, 51, 54, 51, 55, 51, 56, 51, 57, 52, 48, 52, 49, 52, 50, 52, 51, 52, 52, 52, 53, 52, 54, 52, 55, 52, 56, 52, 57, 53, 48, 53, 49, 53, 50, 53, 51, 53, 52, 53, 53, 53, 54, 53, 55, 53, 56, 53, 57, 54, 48, 54, 49, 54, 50, 54, 51, 54, 52, 54, 53, 54, 54, 54, 55, 54, 56, 54, 57, 55, 48, 55, 49, 55, 50, 55, 51, 55, 52, 55, 53, 55, 54, 55, 55, 55, 56, 55, 57, 56, 48, 56, 49, 56, 50, 56, 51, 56, 52, 56, 53, 56, 54, 56, 55, 56, 56, 56, 57, 57, 48, 57, 49, 57, 50, 57, 51, 57, 52, 57, 53, 57, 54, 57, 55, 57, 56, 57, 57] : List UInt8) (w64 (a0 * 2)) (w64 ((w64 (a0 * 2)) + 2))).bind fun r4 => some r4)
theorem internal_strconv_small_c (a0 : Int) : Con Tryz.prog 159 #[.int .i64 a0] [] (internal_strconv_small_m a0) (fun (o : (List UInt8)) (x : Unit) => vS o) (fun (o : (List UInt8)) (x : Unit) => []) := by
  unfold internal_strconv_small_m
  refine con (args := [.int .i64 a0]) Tryz.func159 rfl 15 rfl (.c .n) rfl fun c hD hrn => ?_
  refine cSeq (cRegion (lR (dAssign (.c (v' := vS ([] : List UInt8)) rfl)) (lNil (xCode (cSeq (cSeq (cRegion (lM .z1 ?_))))))))
  refine lR (dLt (.t .z) (.c rfl)) (lKeep (.k (.d (.k (.k .n)))) (lNil (xCode (cCond (.t .z) (fun h1 => ?_) (fun h1 => ?_)))))
  ·refine cSeq (cRegion (lM .z2 (lM .z3 (lR (dAddI (.t .z) (.c rfl)) (lBind fun r2 h3 => ?_)))))
   exact lR (dSubStr und_9 (.c (v' := vS ([48, 49, 50, 51, 52, 53, 54, 55, 56, 57, 97, 98, 99, 100, 101, 102, 103, 104, 105, 106, 107, 108, 109, 110, 111, 112, 113, 114, 115, 116, 117, 118, 119, 120, 121, 122] : List UInt8)) rfl) ⟨_, (.t .z2)⟩ ⟨_, (.t .z)⟩ h3) (lAK .z (.k (.k (.k (.k (.k (.d (Keep.refl _))))))) (lKeep (.k (.d (.d (.d (.d (.d (.k .n))))))) (lNil (xCode (cRet (rLeave hD (lvRet (rs := [.tmp 2]) rfl (.t .z .n) () rfl .nil)))))))
  ·refine cSkip (xCode (cSeq (cRegion (lM .z2 (lR (dMulI (.t .z) (.c rfl)) (lM .z4 (lR (dMulI (.t .z) (.c rfl)) (lR (dAddI (.t .z) (.c rfl)) ?_))))))))
   refine lBind fun r4 h5 => ?_
   refine lR (dSubStr und_9 (.c (v' := vS ([48, 48, 48, 49, 48, 50, 48, 51, 48, 52, 48, 53, 48, 54, 48, 55, 48, 56, 48, 57, 49, 48, 49, 49, 49, 50, 49, 51, 49, 52, 49, 53, 49, 54, 49, 55, 49, 56, 49, 57, 50, 48, 50, 49, 50, 50, 50, 51, 50, 52, 50, 53, 50, 54, 50, 55, 50, 56, 50, 57, 51, 48, 51, 49, 51, 50, 51, 51, 51, 52, 51, 53, 51, 54, 51, 55, 51, 56, 51, 57, 52, 48, 52, 49, 52, 50, 52, 51, 52, 52, 52, 53, 52, 54, 52, 55, 52, 56, 52, 57, 53, 48, 53, 49, 53, 50, 53, 51, 53, 52, 53, 53, 53, 54, 53, 55, 53, 56, 53, 57, 54, 48, 54, 49, 54, 50, 54, 51, 54, 52, 54, 53, 54, 54, 54, 55, 54, 56, 54, 57, 55, 48, 55, 49, 55, 50, 55, 51, 55, 52, 55, 53, 55, 54, 55, 55, 55, 56, 55, 57, 56, 48, 56, 49, 56, 50, 56, 51, 56, 52, 56, 53, 56, 54, 56, 55, 56, 56, 56, 57, 57, 48, 57, 49, 57, 50, 57, 51, 57, 52, 57, 53, 57, 54, 57, 55, 57, 56, 57, 57] : List UInt8)) rfl) ⟨_, (.t .z3)⟩ ⟨_, (.t .z)⟩ h5) ?_
   exact lAK .z (.k (.k (.k (.k (.k (.k (.k (.d (Keep.refl _))))))))) (lKeep (.k .n) (lNil (xCode (cRet (rLeave hD (lvRet (rs := [.tmp 2]) rfl (.t .z .n) () rfl .nil))))))

-- internal/strconv.log10Pow2
def internal_strconv_log10Pow2_m (a0 : Int) : Option (Int) := some (Int.fdiv (w64 (a0 * 78913)) (2 ^ (min (Int.toNat 18) 64)))
theorem internal_strconv_log10Pow2_c (a0 : Int) : Con Tryz.prog 190 #[.int .i64 a0] [] (internal_strconv_log10Pow2_m a0) (fun (o : Int) (x : Unit) => .int .i64 o) (fun (o : Int) (x : Unit) => []) := by
  unfold internal_strconv_log10Pow2_m
  refine con (args := [.int .i64 a0]) Tryz.func190 rfl 6 rfl (.c .n) rfl fun c hD hrn => ?_
  refine cSeq (cRegion (lR (dAssign (.c rfl)) (lNil (xCode (cSeq (cRegion (lM .z1 (lR (dMulI (.t .z) (.c rfl)) ?_))))))))
  exact lR (dShr (.t .z) (.c rfl) (by decide)) (lAK .z (.k (.k (.k (.d (Keep.refl _))))) (lKeep (.k .n) (lNil (xCode (cRet (rLeave hD (lvRet (rs := [.tmp 2]) rfl (.t .z .n) () rfl .nil)))))))

-- math/bits.Len64
def math_bits_Len64_m (a0 : Int) : Option (Int) := ((if a0 ≥ 4294967296 then some (32, Int.fdiv a0 (2 ^ (min (Int.toNat 32) 64))) else some (0, a0))).bind fun (s2 : Int × Int) => ((if s2.2 ≥ 65536 then some (w64 (s2.1 + 16), Int.fdiv s2.2 (2 ^ (min (Int.toNat 16) 64))) else some (s2.1, s2.2))).bind fun (s5 : Int × Int) => ((if s5.2 ≥ 256 then some (w64 (s5.1 + 8), Int.fdiv s5.2 (2 ^ (min (Int.toNat 8) 64))) else some (s5.1, s5.2))).bind fun (s8 : Int × Int) => (ix ([0, 1, 2, 2, 3, 3, 3, 3, 4, 4, 4, 4, 4, 4, 4, 4, 5, 5, 5, 5, 5, 5, 5, 5, 5, 5, 5, 5, 5, 5, 5, 5, 6, 6, 6, 6, 6, 6, 6, 6, 6, 6, 6, 6, 6, 6, 6, 6, 6, 6, 6, 6, 6, 6, 6, 6, 6, 6, 6, 6, 6, 6, 6, 6, 7, 7, 7, 7, 7, 7, 7, 7, 7, 7, 7, 7, 7, 7, 7, 7, 7, 7, 7, 7, 7, 7, 7, 7, 7, 7, 7, 7, 7, 7, 7, 7, 7, 7, 7, 7, 7, 7, 7, 7, 7, 7, 7, 7, 7, 7, 7, 7, 7, 7, 7, 7, 7, 7, 7, 7, 7, 7, 7, 7, 7, 7, 7, 7, 8, 8, 8, 8, 8, 8, 8, 8, 8, 8, 8, 8, 8, 8, 8, 8, 8, 8, 8, 8, 8, 8, 8, 8, 8, 8, 8, 8, 8, 8, 8, 8, 8, 8, 8, 8, 8, 8, 8, 8, 8, 8, 8, 8, 8, 8, 8, 8, 8, 8, 8, 8, 8, 8, 8, 8, 8, 8, 8, 8, 8, 8, 8, 8, 8, 8, 8, 8, 8, 8, 8, 8, 8, 8, 8, 8, 8, 8, 8, 8, 8, 8, 8, 8, 8, 8, 8, 8, 8, 8, 8, 8, 8, 8, 8, 8, 8, 8, 8, 8, 8, 8, 8, 8, 8, 8, 8, 8, 8, 8, 8, 8, 8, 8, 8, 8, 8, 8, 8, 8, 8, 8, 8, 8, 8, 8, 8, 8] : List UInt8) ((toB s8.2).toNat : Int)).bind fun y10 => some (w64 (s8.1 + (y10.toNat : Int)))
theorem math_bits_Len64_c (a0 : Int) : Con Tryz.prog 191 #[.int .u64 a0] [] (math_bits_Len64_m a0) (fun (o : Int) (x : Unit) => .int .i64 o) (fun (o : Int) (x : Unit) => []) := by
  unfold math_bits_Len64_m
  refine con (args := [.int .u64 a0]) Tryz.func191 rfl 25 rfl (.c .n) rfl fun c hD hrn => ?_
  refine cSeq (cRegion (lR (dAssign (.c rfl)) (lNil (xCode (cSeq (cSeq (cRegion (lM .z1 ?_))))))))
  refine lR (dGe (.t .z) (.c rfl)) (lKeep (.k (.d (.k (.k .n)))) (lNil (xCode (cJoin (S := Int × Int) (X := Unit) (fun (s : Int × Int) (x : Unit) => [(2, .int .i64 s.1), (0, .int .u64 s.2)]) (fun (s : Int × Int) (x : Unit) => []) ?_ (fun s2 x3 => ?_)))))
  ·refine cCond (.t .z) (fun h1 => ?_) (fun h1 => ?_)
   ·refine cSeq (cRegion (lM .z2 (lR (dShr (.t .z) (.c rfl) (by decide)) (lAK .z (.k (.k (.k (.k (.d (Keep.refl _)))))) (lKeep (.k (.d (.d (.d (.k .n))))) (lNil (xCode (cRegion ?_))))))))
    exact lRdK (dAssign (.c rfl)) (.k (.d (Keep.refl _))) rfl rfl (lNil (xJoin (32, Int.fdiv a0 (2 ^ (min (Int.toNat 32) 64))) () (.c .z (.c .z1 .n)) .nil))
   ·exact cSkip (xJoin (0, a0) () (.c .z1 (.c .z2 .n)) .nil)
  ·refine xCode (cSeq (cSeq (cRegion (lM .z1 (lR (dGe (.t .z) (.c rfl)) (lKeep (.k (.d (.k (.k .n)))) (lNil (xCode ?_))))))))
   refine cJoin (S := Int × Int) (X := Unit) (fun (s : Int × Int) (x : Unit) => [(2, .int .i64 s.1), (0, .int .u64 s.2)]) (fun (s : Int × Int) (x : Unit) => []) ?_ (fun s5 x6 => ?_)
   ·refine cCond (.t .z) (fun h4 => ?_) (fun h4 => ?_)
    ·refine cSeq (cRegion (lM .z2 (lR (dShr (.t .z) (.c rfl) (by decide)) (lAK .z (.k (.k (.k (.k (.d (Keep.refl _)))))) (lKeep (.k (.d (.d (.d (.k .n))))) (lNil (xCode (cRegion ?_))))))))
     exact lM .z1 (lR (dAddI (.t .z) (.c rfl)) (lAK .z (.k (.k (.k (.d (Keep.refl _))))) (lKeep (.k (.d (.d (.k .n)))) (lNil (xJoin (w64 (s2.1 + 16), Int.fdiv s2.2 (2 ^ (min (Int.toNat 16) 64))) () (.c .z (.c .z1 .n)) .nil)))))
    ·exact cSkip (xJoin (s2.1, s2.2) () (.c .z1 (.c .z2 .n)) .nil)
   ·refine xCode (cSeq (cSeq (cRegion (lM .z1 (lR (dGe (.t .z) (.c rfl)) (lKeep (.k (.d (.k (.k .n)))) (lNil (xCode ?_))))))))
    refine cJoin (S := Int × Int) (X := Unit) (fun (s : Int × Int) (x : Unit) => [(2, .int .i64 s.1), (0, .int .u64 s.2)]) (fun (s : Int × Int) (x : Unit) => []) ?_ (fun s8 x9 => ?_)
    ·refine cCond (.t .z) (fun h7 => ?_) (fun h7 => ?_)
     ·refine cSeq (cRegion (lM .z2 (lR (dShr (.t .z) (.c rfl) (by decide)) (lAK .z (.k (.k (.k (.k (.d (Keep.refl _)))))) (lKeep (.k (.d (.d (.d (.k .n))))) (lNil (xCode (cRegion ?_))))))))
      exact lM .z1 (lR (dAddI (.t .z) (.c rfl)) (lAK .z (.k (.k (.k (.d (Keep.refl _))))) (lKeep (.k (.d (.d (.k .n)))) (lNil (xJoin (w64 (s5.1 + 8), Int.fdiv s5.2 (2 ^ (min (Int.toNat 8) 64))) () (.c .z (.c .z1 .n)) .nil)))))
     ·exact cSkip (xJoin (s5.1, s5.2) () (.c .z1 (.c .z2 .n)) .nil)
    ·refine xCode (cSeq (cRegion (lM .z (lM .z2 (lR (dConvToB som_218 und_5 (.t .z)) (lIx fun y10 h11 h12 => ?_))))))
     refine lR (dIxStr und_9 (.c (v' := vS ([0, 1, 2, 2, 3, 3, 3, 3, 4, 4, 4, 4, 4, 4, 4, 4, 5, 5, 5, 5, 5, 5, 5, 5, 5, 5, 5, 5, 5, 5, 5, 5, 6, 6, 6, 6, 6, 6, 6, 6, 6, 6, 6, 6, 6, 6, 6, 6, 6, 6, 6, 6, 6, 6, 6, 6, 6, 6, 6, 6, 6, 6, 6, 6, 7, 7, 7, 7, 7, 7, 7, 7, 7, 7, 7, 7, 7, 7, 7, 7, 7, 7, 7, 7, 7, 7, 7, 7, 7, 7, 7, 7, 7, 7, 7, 7, 7, 7, 7, 7, 7, 7, 7, 7, 7, 7, 7, 7, 7, 7, 7, 7, 7, 7, 7, 7, 7, 7, 7, 7, 7, 7, 7, 7, 7, 7, 7, 7, 8, 8, 8, 8, 8, 8, 8, 8, 8, 8, 8, 8, 8, 8, 8, 8, 8, 8, 8, 8, 8, 8, 8, 8, 8, 8, 8, 8, 8, 8, 8, 8, 8, 8, 8, 8, 8, 8, 8, 8, 8, 8, 8, 8, 8, 8, 8, 8, 8, 8, 8, 8, 8, 8, 8, 8, 8, 8, 8, 8, 8, 8, 8, 8, 8, 8, 8, 8, 8, 8, 8, 8, 8, 8, 8, 8, 8, 8, 8, 8, 8, 8, 8, 8, 8, 8, 8, 8, 8, 8, 8, 8, 8, 8, 8, 8, 8, 8, 8, 8, 8, 8, 8, 8, 8, 8, 8, 8, 8, 8, 8, 8, 8, 8, 8, 8, 8, 8, 8, 8, 8, 8, 8, 8, 8, 8, 8, 8] : List UInt8)) rfl) (.t .z) h11 h12) ?_
     exact lR (dConvB som_5 und_3 rfl (.t .z)) (lR (dAddI (.t .z4) (.t .z)) (lAK .z (.k (.k (.k (.k (.k (.k (.d (Keep.refl _)))))))) (lKeep (.k .n) (lNil (xCode (cRet (rLeave hD (lvRet (rs := [.tmp 2]) rfl (.t .z .n) () rfl .nil))))))))

-- internal/strconv.bool2[int]
def internal_strconv_bool2_int_m (a0 : Bool) : Option (Int) := (if a0 = true then some 1 else some 0)
theorem internal_strconv_bool2_int_c (a0 : Bool) : Con Tryz.prog 192 #[.bool a0] [] (internal_strconv_bool2_int_m a0) (fun (o : Int) (x : Unit) => .int .i64 o) (fun (o : Int) (x : Unit) => []) := by
  unfold internal_strconv_bool2_int_m
  refine con (args := [.bool a0]) Tryz.func192 rfl 4 rfl (.c .n) rfl fun c hD hrn => ?_
  refine cSeq (cRegion (lR (dAssign (.c rfl)) (lNil (xCode (cSeq (cSeq (cRegion (lM .z1 ?_))))))))
  refine lKeep (.k (.k .n)) (lNil (xCode (cCondB (.t .z) (fun h1 => ?_) (fun h1 => ?_))))
  ·exact cSeq (cRegion (lRdK (dAssign (.c rfl)) (.k (.d (Keep.refl _))) rfl rfl (lKeep (.k .n) (lNil (xCode (cRet (rLeave hD (lvRet (rs := [.tmp 2]) rfl (.t .z .n) () rfl .nil))))))))
  ·refine cSkip (xCode (cSeq (cRegion (lRdK (dAssign (.c rfl)) (.k (.d (Keep.refl _))) rfl rfl (lKeep (.k .n) (lNil (xCode (cRet ?_))))))))
   exact rLeave hD (lvRet (rs := [.tmp 2]) rfl (.t .z .n) () rfl .nil)

-- internal/strconv.isPowerOfTwo
def internal_strconv_isPowerOfTwo_m (a0 : Int) : Option (Bool) := some (decide ((iand .i64 a0 (w64 (a0 - 1))) = 0))
theorem internal_strconv_isPowerOfTwo_c (a0 : Int) : Con Tryz.prog 193 #[.int .i64 a0] [] (internal_strconv_isPowerOfTwo_m a0) (fun (o : Bool) (x : Unit) => .bool o) (fun (o : Bool) (x : Unit) => []) := by
  unfold internal_strconv_isPowerOfTwo_m
  refine con (args := [.int .i64 a0]) Tryz.func193 rfl 8 rfl (.c .n) rfl fun c hD hrn => ?_
  refine cSeq (cRegion (lR (dAssign (.c rfl)) (lNil (xCode (cSeq (cRegion (lM .z1 (lM .z2 ?_))))))))
  refine lR (dSubI (.t .z) (.c rfl)) (lR (dAnd (.t .z2) (.t .z)) (lR (dEq (.t .z) (.c rfl)) (lAK .z (.k (.k (.k (.k (.k (.d (Keep.refl _))))))) (lKeep (.k .n) (lNil (xCode (cRet (rLeave hD ?_))))))))
  exact lvRet (rs := [.tmp 2]) rfl (.t .z .n) () rfl .nil

-- internal/strconv.FormatInt
def internal_strconv_FormatInt_m (a0 : Int) (a1 : Int) : Option ((List UInt8)) := (if a1 = 10 then ((if 0 ≤ a0 then some (decide (a0 < 100)) else some false)).bind fun (s3 : Bool) => (if s3 = true then (internal_strconv_small_m a0).bind fun o6 => some o6 else ((if a0 < 0 then some (IntKind.wrap .u64 (0 - IntKind.wrap .u64 a0)) else some (IntKind.wrap .u64 a0))).bind fun (s11 : Int) => none) else none)
theorem internal_strconv_FormatInt_c (a0 : Int) (a1 : Int) : Con Tryz.prog 119 #[.int .i64 a0, .int .i64 a1] [] (internal_strconv_FormatInt_m a0 a1) (fun (o : (List UInt8)) (x : Unit) => vS o) (fun (o : (List UInt8)) (x : Unit) => []) := by
  unfold internal_strconv_FormatInt_m
  refine con (args := [.int .i64 a0, .int .i64 a1]) Tryz.func119 rfl 54 rfl (.c (.c .n)) rfl fun c hD hrn => ?_
  refine cSeq (cRegion (lR (dAssign (.c (v' := vS ([] : List UInt8)) rfl)) (lNil (xCode (cSeq (cSeq (cRegion (lM .z2 ?_))))))))
  refine lR (dEq (.t .z) (.c rfl)) (lKeep (.k (.d (.k (.k (.k .n))))) (lNil (xCode (cCond (.t .z) (fun h1 => ?_) (fun h1 => ?_)))))
  ·refine cSeq (cSeq (cJoin (S := Bool) (X := Unit) (fun (s : Bool) (x : Unit) => [(17, .bool s), (4, vS ([] : List UInt8)), (0, .int .i64 a0), (1, .int .i64 a1)]) (fun (s : Bool) (x : Unit) => []) ?_ (fun s3 x4 => ?_)))
   ·refine cRegion (lM .z2 (lR (dLe (.c rfl) (.t .z)) (lM .z (lCase (fun h2 => ?_) (fun h2 => ?_)))))
    ·exact lG .z (decide_eq_true h2) (dMove (.t .z5)) (lG .z1 (decide_eq_true h2) (dLt (.t .z) (.c rfl)) (lR (dPickT (.t .z2) (decide_eq_true h2) (.t .z)) (lKeep (.k (.d (.d (.d (.d (.d (.d (.k (.k (.k .n)))))))))) (lNil (xJoin (decide (a0 < 100)) () (.c .z (.c .z1 (.c .z2 (.c .z3 .n)))) .nil)))))
    ·exact lPass rfl .z (nbT (decide_eq_false h2)) rfl (lPass rfl .z (nbT (decide_eq_false h2)) rfl (lR (dPickF (.t .z) (decide_eq_false h2) (.c rfl)) (lKeep (.k (.d (.d (.d (.d (.k (.k (.k .n)))))))) (lNil (xJoin false () (.c .z (.c .z1 (.c .z2 (.c .z3 .n)))) .nil)))))
   ·refine xCode (cCondB (.t .z) (fun h5 => ?_) (fun h5 => ?_))
    ·refine cSeq (cRegion (lM .z2 (lCall fok_159 (.c (.t .z) .n) (internal_strconv_small_c a0) .n rfl rfl fun o6 x7 h8 => ?_)))
     exact lAK .z (.k (.k (.k (.d (Keep.refl _))))) (lKeep (.k (.d (.d (.d (.k (.k .n)))))) (lNil (xCode (cRet (rLeave hD (lvRet (rs := [.tmp 4]) rfl (.t .z .n) () rfl .nil))))))
    ·refine cSkip (xCode (cSeq (cRegion (lCh (cAlloc (cs := [vB 0, vB 0, vB 0, vB 0, vB 0, vB 0, vB 0, vB 0, vB 0, vB 0, vB 0, vB 0, vB 0, vB 0, vB 0, vB 0, vB 0, vB 0, vB 0, vB 0, vB 0, vB 0, vB 0, vB 0]) zer_217 rfl) rfl rfl fun b9 => ?_))))
     refine lKeep (.k (.d (.k (.k (.k .n))))) (lNil (xCode (cSeq (cRegion (lM .z2 (lR (dConv som_2 und_218 (.t .z)) (lA .z (lKeep (.k (.d (.d (.k (.k (.k (.k .n))))))) ?_))))))))
     refine lNil (xCode (cSeq (cSeq (cRegion (lM .z3 (lR (dLt (.t .z) (.c rfl)) (lKeep (.k (.d (.k (.k (.k (.k (.k .n))))))) (lNil ?_))))))))
     refine xCode (cJoin (S := Int) (X := Unit) (fun (s : Int) (x : Unit) => [(6, .int .u64 s), (5, .pointer (some ⟨b9, 0, none⟩)), (4, vS ([] : List UInt8)), (0, .int .i64 a0), (1, .int .i64 a1)]) (fun (s : Int) (x : Unit) => [.blk b9 [vB 0, vB 0, vB 0, vB 0, vB 0, vB 0, vB 0, vB 0, vB 0, vB 0, vB 0, vB 0, vB 0, vB 0, vB 0, vB 0, vB 0, vB 0, vB 0, vB 0, vB 0, vB 0, vB 0, vB 0] 217]) ?_ (fun s11 x12 => ?_))
     ·refine cCond (.t .z) (fun h10 => ?_) (fun h10 => ?_)
      ·exact cRegion (lM .z1 (lR (dNeg (.t .z)) (lAK .z (.k (.k (.k (.d (Keep.refl _))))) (lKeep (.k (.d (.d (.d (.k (.k (.k (.k .n)))))))) (lNil (xJoin (IntKind.wrap .u64 (0 - IntKind.wrap .u64 a0)) () (.c .z (.c .z1 (.c .z2 (.c .z3 (.c .z4 .n))))) (.c .z .nil)))))))
      ·exact cSkip (xJoin (IntKind.wrap .u64 a0) () (.c .z1 (.c .z2 (.c .z3 (.c .z4 (.c .z5 .n))))) (.c .z .nil))
     ·exact xCode (cSeq (cStuck))
  ·exact cSkip (xCode (cSeq (cStuck)))

-- internal/strconv.Itoa
def internal_strconv_Itoa_m (a0 : Int) : Option ((List UInt8)) := (internal_strconv_FormatInt_m a0 10).bind fun o1 => some o1
theorem internal_strconv_Itoa_c (a0 : Int) : Con Tryz.prog 77 #[.int .i64 a0] [] (internal_strconv_Itoa_m a0) (fun (o : (List UInt8)) (x : Unit) => vS o) (fun (o : (List UInt8)) (x : Unit) => []) := by
  unfold internal_strconv_Itoa_m
  refine con (args := [.int .i64 a0]) Tryz.func77 rfl 5 rfl (.c .n) rfl fun c hD hrn => ?_
  refine cSeq (cRegion (lR (dAssign (.c (v' := vS ([] : List UInt8)) rfl)) (lNil (xCode (cSeq (cRegion (lM .z1 (lCall fok_119 (.c (.t .z) (.c (.c rfl) .n)) (internal_strconv_FormatInt_c a0 10) .n rfl rfl fun o1 x2 h3 => ?_))))))))
  exact lAK .z (.k (.k (.d (Keep.refl _)))) (lKeep (.k .n) (lNil (xCode (cRet (rLeave hD (lvRet (rs := [.tmp 2]) rfl (.t .z .n) () rfl .nil))))))

-- strconv.Itoa
def strconv_Itoa_m (a0 : Int) : Option ((List UInt8)) := (internal_strconv_Itoa_m a0).bind fun o1 => some o1
theorem strconv_Itoa_c (a0 : Int) : Con Tryz.prog 38 #[.int .i64 a0] [] (strconv_Itoa_m a0) (fun (o : (List UInt8)) (x : Unit) => vS o) (fun (o : (List UInt8)) (x : Unit) => []) := by
  unfold strconv_Itoa_m
  refine con (args := [.int .i64 a0]) Tryz.func38 rfl 5 rfl (.c .n) rfl fun c hD hrn => ?_
  refine cSeq (cRegion (lR (dAssign (.c (v' := vS ([] : List UInt8)) rfl)) (lNil (xCode (cSeq (cRegion (lM .z1 (lCall fok_77 (.c (.t .z) .n) (internal_strconv_Itoa_c a0) .n rfl rfl fun o1 x2 h3 => ?_))))))))
  exact lAK .z (.k (.k (.d (Keep.refl _)))) (lKeep (.k .n) (lNil (xCode (cRet (rLeave hD (lvRet (rs := [.tmp 2]) rfl (.t .z .n) () rfl .nil))))))

-- greenscreen/keyboard.plain
def keyboard_plain_m (a0 : UInt8) : Option ((List UInt8)) := (if a0 = (125 : UInt8) then some ([69, 78, 84, 69, 82] : List UInt8) else (if a0 = (109 : UInt8) then some ([67, 76, 69, 65, 82] : List UInt8) else (if a0 = (108 : UInt8) then some ([80, 65, 49] : List UInt8) else (if a0 = (110 : UInt8) then some ([80, 65, 50] : List UInt8) else (if a0 = (107 : UInt8) then some ([80, 65, 51] : List UInt8) else some ([] : List UInt8))))))
theorem keyboard_plain_c (a0 : UInt8) : Con Tryz.prog 39 #[vB a0] [] (keyboard_plain_m a0) (fun (o : (List UInt8)) (x : Unit) => vS o) (fun (o : (List UInt8)) (x : Unit) => []) := by
  unfold keyboard_plain_m
  refine con (args := [vB a0]) Tryz.func39 rfl 14 rfl (.c .n) rfl fun c hD hrn => ?_
  refine cSeq (cRegion (lR (dAssign (.c (v' := vS ([] : List UInt8)) rfl)) (lNil (xCode (cSeq (cSeq (cRegion (lM .z1 ?_))))))))
  refine lKeep (.k (.k .n)) (lNil (xCode (cBlock (cSeq (cRegion (lR (dEqB (.t .z) (.c (v' := vB 125) rfl)) (lA .z (lKeep (.k (.d (.k (.k .n)))) ?_))))))))
  refine lNil (xCode (cCond (.t .z) (fun h1 => ?_) (fun h1 => ?_)))
  ·exact cSeq (cRegion (lRdK (dAssign (.c (v' := vS ([69, 78, 84, 69, 82] : List UInt8)) rfl)) (.k (.k (.d (Keep.refl _)))) rfl rfl (lKeep (.k .n) (lNil (xCode (cRet (rLeave hD (lvRet (rs := [.tmp 2]) rfl (.t .z .n) () rfl .nil))))))))
  ·refine cSeq (cRegion (lR (dEqB (.t .z1) (.c (v' := vB 109) rfl)) (lA .z (lKeep (.k (.d (.d (.k (.k .n))))) (lNil (xCode (cCond (.t .z) (fun h2 => ?_) (fun h2 => ?_))))))))
   ·exact cSeq (cRegion (lRdK (dAssign (.c (v' := vS ([67, 76, 69, 65, 82] : List UInt8)) rfl)) (.k (.k (.d (Keep.refl _)))) rfl rfl (lKeep (.k .n) (lNil (xCode (cRet (rLeave hD (lvRet (rs := [.tmp 2]) rfl (.t .z .n) () rfl .nil))))))))
   ·refine cSeq (cRegion (lR (dEqB (.t .z1) (.c (v' := vB 108) rfl)) (lA .z (lKeep (.k (.d (.d (.k (.k .n))))) (lNil (xCode (cCond (.t .z) (fun h3 => ?_) (fun h3 => ?_))))))))
    ·exact cSeq (cRegion (lRdK (dAssign (.c (v' := vS ([80, 65, 49] : List UInt8)) rfl)) (.k (.k (.d (Keep.refl _)))) rfl rfl (lKeep (.k .n) (lNil (xCode (cRet (rLeave hD (lvRet (rs := [.tmp 2]) rfl (.t .z .n) () rfl .nil))))))))
    ·refine cSeq (cRegion (lR (dEqB (.t .z1) (.c (v' := vB 110) rfl)) (lA .z (lKeep (.k (.d (.d (.k (.k .n))))) (lNil (xCode (cCond (.t .z) (fun h4 => ?_) (fun h4 => ?_))))))))
     ·exact cSeq (cRegion (lRdK (dAssign (.c (v' := vS ([80, 65, 50] : List UInt8)) rfl)) (.k (.k (.d (Keep.refl _)))) rfl rfl (lKeep (.k .n) (lNil (xCode (cRet (rLeave hD (lvRet (rs := [.tmp 2]) rfl (.t .z .n) () rfl .nil))))))))
     ·refine cSeq (cRegion (lR (dEqB (.t .z1) (.c (v' := vB 107) rfl)) (lA .z (lKeep (.k (.d (.d (.d (.k .n))))) (lNil (xCode (cCond (.t .z) (fun h5 => ?_) (fun h5 => ?_))))))))
      ·exact cSeq (cRegion (lRdK (dAssign (.c (v' := vS ([80, 65, 51] : List UInt8)) rfl)) (.k (.d (Keep.refl _))) rfl rfl (lKeep (.k .n) (lNil (xCode (cRet (rLeave hD (lvRet (rs := [.tmp 2]) rfl (.t .z .n) () rfl .nil))))))))
      ·refine cSkip (xBlock (xCode (cSeq (cRegion (lRdK (dAssign (.c (v' := vS ([] : List UInt8)) rfl)) (.k (.d (Keep.refl _))) rfl rfl (lKeep (.k .n) (lNil (xCode ?_))))))))
       exact cRet (rLeave hD (lvRet (rs := [.tmp 2]) rfl (.t .z .n) () rfl .nil))

-- greenscreen/keyboard.function
def keyboard_function_m (a0 : UInt8) : Option (Int) := ((if a0 ≥ (241 : UInt8) then some (decide (a0 ≤ (249 : UInt8))) else some false)).bind fun (s2 : Bool) => (if s2 = true then some ((a0 - (240 : UInt8)).toNat : Int) else ((if a0 ≥ (122 : UInt8) then some (decide (a0 ≤ (124 : UInt8))) else some false)).bind fun (s6 : Bool) => (if s6 = true then some (w64 (((a0 - (122 : UInt8)).toNat : Int) + 10)) else ((if a0 ≥ (193 : UInt8) then some (decide (a0 ≤ (201 : UInt8))) else some false)).bind fun (s10 : Bool) => (if s10 = true then some (w64 (((a0 - (192 : UInt8)).toNat : Int) + 12)) else ((if a0 ≥ (74 : UInt8) then some (decide (a0 ≤ (76 : UInt8))) else some false)).bind fun (s14 : Bool) => (if s14 = true then some (w64 (((a0 - (74 : UInt8)).toNat : Int) + 22)) else some 0))))
theorem keyboard_function_c (a0 : UInt8) : Con Tryz.prog 76 #[vB a0] [] (keyboard_function_m a0) (fun (o : Int) (x : Unit) => .int .i64 o) (fun (o : Int) (x : Unit) => []) := by
  unfold keyboard_function_m
  refine con (args := [vB a0]) Tryz.func76 rfl 48 rfl (.c .n) rfl fun c hD hrn => ?_
  refine cSeq (cRegion (lR (dAssign (.c rfl)) (lNil (xCode (cSeq (cRegion (lR (dAssign (.c rfl)) (lNil ?_))))))))
  refine xCode (cSeq (cBlock (cSeq (cJoin (S := Bool) (X := Unit) (fun (s : Bool) (x : Unit) => [(4, .bool s), (3, .int .i64 0), (2, .int .i64 0), (0, vB a0)]) (fun (s : Bool) (x : Unit) => []) ?_ (fun s2 x3 => ?_)))))
  ·refine cRegion (lM .z2 (lR (dGeB (.t .z) (.c (v' := vB 241) rfl)) (lM .z (lCase (fun h1 => ?_) (fun h1 => ?_)))))
   ·exact lG .z (decide_eq_true h1) (dMove (.t .z5)) (lG .z1 (decide_eq_true h1) (dLeB (.t .z) (.c (v' := vB 249) rfl)) (lR (dPickT (.t .z2) (decide_eq_true h1) (.t .z)) (lA .z (lKeep (.k (.d (.d (.d (.d (.d (.d (.k (.k (.k .n)))))))))) (lNil (xJoin (decide (a0 ≤ (249 : UInt8))) () (.c .z (.c .z1 (.c .z2 (.c .z3 .n)))) .nil))))))
   ·exact lPass rfl .z (nbT (decide_eq_false h1)) rfl (lPass rfl .z (nbT (decide_eq_false h1)) rfl (lR (dPickF (.t .z) (decide_eq_false h1) (.c rfl)) (lA .z (lKeep (.k (.d (.d (.d (.d (.k (.k (.k .n)))))))) (lNil (xJoin false () (.c .z (.c .z1 (.c .z2 (.c .z3 .n)))) .nil))))))
  ·refine xCode (cCondB (.t .z) (fun h4 => ?_) (fun h4 => ?_))
   ·refine cRegion (lM .z3 (lR (dSubB (.t .z) (.c (v' := vB 240) rfl)) (lR (dConvB som_5 und_3 rfl (.t .z)) (lAK .z (.k (.k (.k (.k (.d (Keep.refl _)))))) (lKeep (.k (.d (.d (.d (.d (.k .n)))))) (lNil (xBlock (xCode ?_))))))))
    refine cSeq (cRegion (lM .z (lAK .z (.k (.k (.d (Keep.refl _)))) (lKeep (.k .n) (lNil (xCode (cRet (rLeave hD ?_))))))))
    exact lvRet (rs := [.tmp 2]) rfl (.t .z .n) () rfl .nil
   ·refine cSeq (cJoin (S := Bool) (X := Unit) (fun (s : Bool) (x : Unit) => [(14, .bool s), (3, .int .i64 0), (2, .int .i64 0), (0, vB a0)]) (fun (s : Bool) (x : Unit) => []) ?_ (fun s6 x7 => ?_))
    ·refine cRegion (lM .z3 (lR (dGeB (.t .z) (.c (v' := vB 122) rfl)) (lM .z (lCase (fun h5 => ?_) (fun h5 => ?_)))))
     ·exact lG .z (decide_eq_true h5) (dMove (.t .z6)) (lG .z1 (decide_eq_true h5) (dLeB (.t .z) (.c (v' := vB 124) rfl)) (lR (dPickT (.t .z2) (decide_eq_true h5) (.t .z)) (lA .z (lKeep (.k (.d (.d (.d (.d (.d (.d (.d (.k (.k (.k .n))))))))))) (lNil (xJoin (decide (a0 ≤ (124 : UInt8))) () (.c .z (.c .z1 (.c .z2 (.c .z3 .n)))) .nil))))))
     ·exact lPass rfl .z (nbT (decide_eq_false h5)) rfl (lPass rfl .z (nbT (decide_eq_false h5)) rfl (lR (dPickF (.t .z) (decide_eq_false h5) (.c rfl)) (lA .z (lKeep (.k (.d (.d (.d (.d (.d (.k (.k (.k .n))))))))) (lNil (xJoin false () (.c .z (.c .z1 (.c .z2 (.c .z3 .n)))) .nil))))))
    ·refine xCode (cCondB (.t .z) (fun h8 => ?_) (fun h8 => ?_))
     ·refine cRegion (lM .z3 (lR (dSubB (.t .z) (.c (v' := vB 122) rfl)) (lR (dConvB som_5 und_3 rfl (.t .z)) (lR (dAddI (.t .z) (.c rfl)) (lAK .z (.k (.k (.k (.k (.k (.d (Keep.refl _))))))) (lKeep (.k (.d (.d (.d (.d (.d (.k .n))))))) (lNil (xBlock ?_))))))))
      refine xCode (cSeq (cRegion (lM .z (lAK .z (.k (.k (.d (Keep.refl _)))) (lKeep (.k .n) (lNil (xCode (cRet ?_))))))))
      exact rLeave hD (lvRet (rs := [.tmp 2]) rfl (.t .z .n) () rfl .nil)
     ·refine cSeq (cJoin (S := Bool) (X := Unit) (fun (s : Bool) (x : Unit) => [(25, .bool s), (3, .int .i64 0), (2, .int .i64 0), (0, vB a0)]) (fun (s : Bool) (x : Unit) => []) ?_ (fun s10 x11 => ?_))
      ·refine cRegion (lM .z3 (lR (dGeB (.t .z) (.c (v' := vB 193) rfl)) (lM .z (lCase (fun h9 => ?_) (fun h9 => ?_)))))
       ·exact lG .z (decide_eq_true h9) (dMove (.t .z6)) (lG .z1 (decide_eq_true h9) (dLeB (.t .z) (.c (v' := vB 201) rfl)) (lR (dPickT (.t .z2) (decide_eq_true h9) (.t .z)) (lA .z (lKeep (.k (.d (.d (.d (.d (.d (.d (.d (.k (.k (.k .n))))))))))) (lNil (xJoin (decide (a0 ≤ (201 : UInt8))) () (.c .z (.c .z1 (.c .z2 (.c .z3 .n)))) .nil))))))
       ·exact lPass rfl .z (nbT (decide_eq_false h9)) rfl (lPass rfl .z (nbT (decide_eq_false h9)) rfl (lR (dPickF (.t .z) (decide_eq_false h9) (.c rfl)) (lA .z (lKeep (.k (.d (.d (.d (.d (.d (.k (.k (.k .n))))))))) (lNil (xJoin false () (.c .z (.c .z1 (.c .z2 (.c .z3 .n)))) .nil))))))
      ·refine xCode (cCondB (.t .z) (fun h12 => ?_) (fun h12 => ?_))
       ·refine cRegion (lM .z3 (lR (dSubB (.t .z) (.c (v' := vB 192) rfl)) (lR (dConvB som_5 und_3 rfl (.t .z)) (lR (dAddI (.t .z) (.c rfl)) (lAK .z (.k (.k (.k (.k (.k (.d (Keep.refl _))))))) (lKeep (.k (.d (.d (.d (.d (.d (.k .n))))))) (lNil (xBlock ?_))))))))
        refine xCode (cSeq (cRegion (lM .z (lAK .z (.k (.k (.d (Keep.refl _)))) (lKeep (.k .n) (lNil (xCode (cRet ?_))))))))
        exact rLeave hD (lvRet (rs := [.tmp 2]) rfl (.t .z .n) () rfl .nil)
       ·refine cSeq (cJoin (S := Bool) (X := Unit) (fun (s : Bool) (x : Unit) => [(36, .bool s), (3, .int .i64 0), (2, .int .i64 0), (0, vB a0)]) (fun (s : Bool) (x : Unit) => []) ?_ (fun s14 x15 => ?_))
        ·refine cRegion (lM .z3 (lR (dGeB (.t .z) (.c (v' := vB 74) rfl)) (lM .z (lCase (fun h13 => ?_) (fun h13 => ?_)))))
         ·exact lG .z (decide_eq_true h13) (dMove (.t .z6)) (lG .z1 (decide_eq_true h13) (dLeB (.t .z) (.c (v' := vB 76) rfl)) (lR (dPickT (.t .z2) (decide_eq_true h13) (.t .z)) (lA .z (lKeep (.k (.d (.d (.d (.d (.d (.d (.d (.k (.k (.k .n))))))))))) (lNil (xJoin (decide (a0 ≤ (76 : UInt8))) () (.c .z (.c .z1 (.c .z2 (.c .z3 .n)))) .nil))))))
         ·exact lPass rfl .z (nbT (decide_eq_false h13)) rfl (lPass rfl .z (nbT (decide_eq_false h13)) rfl (lR (dPickF (.t .z) (decide_eq_false h13) (.c rfl)) (lA .z (lKeep (.k (.d (.d (.d (.d (.d (.k (.k (.k .n))))))))) (lNil (xJoin false () (.c .z (.c .z1 (.c .z2 (.c .z3 .n)))) .nil))))))
        ·refine xCode (cCondB (.t .z) (fun h16 => ?_) (fun h16 => ?_))
         ·refine cRegion (lM .z3 (lR (dSubB (.t .z) (.c (v' := vB 74) rfl)) (lR (dConvB som_5 und_3 rfl (.t .z)) (lR (dAddI (.t .z) (.c rfl)) (lAK .z (.k (.k (.k (.k (.k (.d (Keep.refl _))))))) (lKeep (.k (.d (.d (.d (.d (.d (.k .n))))))) (lNil (xBlock ?_))))))))
          refine xCode (cSeq (cRegion (lM .z (lAK .z (.k (.k (.d (Keep.refl _)))) (lKeep (.k .n) (lNil (xCode (cRet ?_))))))))
          exact rLeave hD (lvRet (rs := [.tmp 2]) rfl (.t .z .n) () rfl .nil)
         ·refine cSkip (xBlock (xCode (cSeq (cRegion (lM .z1 (lAK .z (.k (.k (.k (.d (Keep.refl _))))) (lKeep (.k .n) (lNil ?_))))))))
          exact xCode (cRet (rLeave hD (lvRet (rs := [.tmp 2]) rfl (.t .z .n) () rfl .nil)))

-- greenscreen/keyboard.attention
def keyboard_attention_m (a0 : UInt8) : Option ((List UInt8)) := (keyboard_function_m a0).bind fun o1 => (if o1 > 0 then (strconv_Itoa_m o1).bind fun o5 => (cat ([80, 70] : List UInt8) o5).bind fun r8 => some r8 else (keyboard_plain_m a0).bind fun o10 => some o10)
theorem keyboard_attention_c (a0 : UInt8) : Con Tryz.prog 37 #[vB a0] [] (keyboard_attention_m a0) (fun (o : (List UInt8)) (x : Unit) => vS o) (fun (o : (List UInt8)) (x : Unit) => []) := by
  unfold keyboard_attention_m
  refine con (args := [vB a0]) Tryz.func37 rfl 13 rfl (.c .n) rfl fun c hD hrn => ?_
  refine cSeq (cRegion (lR (dAssign (.c (v' := vS ([] : List UInt8)) rfl)) (lNil (xCode (cSeq (cSeq (cRegion (lM .z1 ?_))))))))
  refine lCall fok_76 (.c (.t .z) .n) (keyboard_function_c a0) .n rfl rfl fun o1 x2 h3 => ?_
  refine lA .z (lKeep (.k (.d (.d (.k (.k .n))))) (lNil (xCode (cSeq (cRegion (lM .z (lR (dGt (.t .z) (.c rfl)) (lKeep (.k (.d (.k (.k (.k .n))))) ?_))))))))
  refine lNil (xCode (cCond (.t .z) (fun h4 => ?_) (fun h4 => ?_)))
  ·refine cSeq (cRegion (lM .z1 (lCall fok_38 (.c (.t .z) .n) (strconv_Itoa_c o1) .n rfl rfl fun o5 x6 h7 => ?_)))
   refine lBind fun r8 h9 => ?_
   exact lR (dCat (.c (v' := vS ([80, 70] : List UInt8)) rfl) (.t .z) h9) (lAK .z (.k (.k (.k (.k (.k (.d (Keep.refl _))))))) (lKeep (.k (.d (.d (.d (.d (.d (.k .n))))))) (lNil (xCode (cRet (rLeave hD (lvRet (rs := [.tmp 2]) rfl (.t .z .n) () rfl .nil)))))))
  ·refine cSkip (xCode (cSeq (cRegion (lM .z3 (lCall fok_39 (.c (.t .z) .n) (keyboard_plain_c a0) .n rfl rfl fun o10 x11 h12 => ?_)))))
   exact lAK .z (.k (.k (.k (.k (.d (Keep.refl _)))))) (lKeep (.k .n) (lNil (xCode (cRet (rLeave hD (lvRet (rs := [.tmp 2]) rfl (.t .z .n) () rfl .nil))))))

-- greenscreen/keyboard.Name
def keyboard_Name_m (a0 : keyboard_Key) : Option ((List UInt8)) := (if a0.f_Kind = 17 then (keyboard_attention_m a0.f_Byte).bind fun o3 => some o3 else ((if a0.f_Kind ≤ 1 then some true else some (decide (a0.f_Kind > 17)))).bind fun (s7 : Bool) => (if s7 = true then some ([] : List UInt8) else (ix glob_0 a0.f_Kind).bind fun y10 => some y10))
theorem keyboard_Name_c (a0 : keyboard_Key) : Con Tryz.prog 9 #[.agg #[.int .i64 a0.f_Kind, vB a0.f_Byte]] [.ro (kVar 0 83) [] (glob_0.map vS)] (keyboard_Name_m a0) (fun (o : (List UInt8)) (x : Unit) => vS o) (fun (o : (List UInt8)) (x : Unit) => []) := by
  unfold keyboard_Name_m
  refine con (args := [.agg #[.int .i64 a0.f_Kind, vB a0.f_Byte]]) Tryz.func9 rfl 23 rfl (.c .n) rfl fun c hD hrn => ?_
  refine cSeq (cRegion (lCh (cBox (cs := [.int .i64 a0.f_Kind, vB a0.f_Byte]) (.t .z) rfl) rfl rfl fun b1 => ?_))
  refine lR (dAssign (.c (v' := vS ([] : List UInt8)) rfl)) (lKeep (.k (.k .n)) (lNil (xCode (cSeq (cBlock (cSeq (cRegion (lR (dFld fld_23_0 (by decide) (.t .z1) rfl) ?_))))))))
  refine lR (dLoad .z agg_3 (.t .z) rfl) (lR (dEq (.t .z) (.c rfl)) (lA .z (lKeep (.k (.d (.d (.d (.k (.k .n)))))) (lNil (xCode (cCond (.t .z) (fun h2 => ?_) (fun h2 => ?_)))))))
  ·refine cSeq (cRegion (lR (dFld fld_23_1 (by decide) (.t .z2) rfl) (lR (dLoad .z agg_5 (.t .z) rfl) (lCall fok_37 (.c (.t .z) .n) (keyboard_attention_c _) .n rfl rfl fun o3 x4 h5 => ?_))))
   exact lAK .z (.k (.k (.k (.k (.d (Keep.refl _)))))) (lKeep (.k (.d (.d (.d (.d (.k .n)))))) (lNil (xCode (cRet (rLeave hD (lvRet (rs := [.tmp 2]) rfl (.t .z .n) () rfl .nil))))))
  ·refine cSeq (cJoin (S := Bool) (X := Unit) (fun (s : Bool) (x : Unit) => [(10, .bool s), (2, vS ([] : List UInt8)), (1, .pointer (some ⟨b1, 0, none⟩))]) (fun (s : Bool) (x : Unit) => [.blk b1 [.int .i64 a0.f_Kind, vB a0.f_Byte] 23, .ro (kVar 0 83) [] (glob_0.map vS)]) ?_ (fun s7 x8 => ?_))
   ·refine cRegion (lR (dFld fld_23_0 (by decide) (.t .z2) rfl) (lR (dLoad .z agg_3 (.t .z) rfl) (lR (dLe (.t .z) (.c rfl)) (lM .z (lCase (fun h6 => ?_) (fun h6 => ?_))))))
    ·exact lPass rfl .z (nbF (decide_eq_true h6)) rfl (lPass rfl .z (nbF (decide_eq_true h6)) rfl (lPass rfl .z (nbF (decide_eq_true h6)) rfl (lR (dPickT (.t .z) (decide_eq_true h6) (.c rfl)) (lA .z (lKeep (.k (.d (.d (.d (.d (.d (.d (.k (.k .n))))))))) (lNil (xJoin true () (.c .z (.c .z1 (.c .z2 .n))) (.c .z (.c .z .nil)))))))))
    ·exact lG .z (decide_eq_false h6) (dFld fld_23_0 (by decide) (.t .z6) rfl) (lG .z1 (decide_eq_false h6) (dLoad .z agg_3 (.t .z) rfl) (lG .z2 (decide_eq_false h6) (dGt (.t .z) (.c rfl)) (lR (dPickF (.t .z3) (decide_eq_false h6) (.t .z)) (lA .z (lKeep (.k (.d (.d (.d (.d (.d (.d (.d (.d (.d (.k (.k .n)))))))))))) (lNil (xJoin (decide (a0.f_Kind > 17)) () (.c .z (.c .z1 (.c .z2 .n))) (.c .z (.c .z .nil)))))))))
   ·refine xCode (cCondB (.t .z) (fun h9 => ?_) (fun h9 => ?_))
    ·exact cSeq (cRegion (lRdK (dAssign (.c (v' := vS ([] : List UInt8)) rfl)) (.k (.d (Keep.refl _))) rfl rfl (lKeep (.k (.d (.k .n))) (lNil (xCode (cRet (rLeave hD (lvRet (rs := [.tmp 2]) rfl (.t .z .n) () rfl .nil))))))))
    ·refine cSkip (xBlock (xCode (cSeq (cRegion (lR (dFld fld_23_0 (by decide) (.t .z2) rfl) (lR (dLoad .z agg_3 (.t .z) rfl) (lIx fun y10 h11 h12 => ?_)))))))
     exact lR (dIxG (xs := glob_0) und_83 siz_9 (by decide) .g (.t .z) h11 h12) (lR (dLoadG (f := vS) .z1 agg_9 (.t .z) h12) (lAK .z (.k (.k (.k (.k (.k (.d (Keep.refl _))))))) (lKeep (.k .n) (lNil (xCode (cRet (rLeave hD (lvRet (rs := [.tmp 2]) rfl (.t .z .n) () rfl .nil))))))))

-- greenscreen/keyboard.Attention
def keyboard_Attention_m (a0 : UInt8) : Option (Bool) := (keyboard_attention_m a0).bind fun o1 => some (decide (o1 ≠ ([] : List UInt8)))
theorem keyboard_Attention_c (a0 : UInt8) : Con Tryz.prog 10 #[vB a0] [] (keyboard_Attention_m a0) (fun (o : Bool) (x : Unit) => .bool o) (fun (o : Bool) (x : Unit) => []) := by
  unfold keyboard_Attention_m
  refine con (args := [vB a0]) Tryz.func10 rfl 6 rfl (.c .n) rfl fun c hD hrn => ?_
  refine cSeq (cRegion (lR (dAssign (.c rfl)) (lNil (xCode (cSeq (cRegion (lM .z1 (lCall fok_37 (.c (.t .z) .n) (keyboard_attention_c a0) .n rfl rfl fun o1 x2 h3 => ?_))))))))
  exact lR (dNeS (.t .z) (.c (v' := vS ([] : List UInt8)) rfl)) (lAK .z (.k (.k (.k (.d (Keep.refl _))))) (lKeep (.k .n) (lNil (xCode (cRet (rLeave hD (lvRet (rs := [.tmp 2]) rfl (.t .z .n) () rfl .nil)))))))

-- greenscreen/keyboard.Named
def keyboard_Named_l1 (K : Nat) (a0 : (List UInt8)) : Nat → (Int) → Option (Sum (Unit) (keyboard_Key × Bool))
  | 0, _ => none
  | n + 1, s2 => (if s2 < 17 then (keyboard_Name_m (⟨s2, 0⟩ : keyboard_Key)).bind fun o8 => (if o8 = a0 then some (Sum.inr ((⟨s2, 0⟩ : keyboard_Key), true)) else (keyboard_Named_l1 K a0 n) (w64 (s2 + 1))) else some (Sum.inl ()))
def keyboard_Named_l2 (K : Nat) (a0 : (List UInt8)) : Nat → (Int) → Option (Sum (Unit) (keyboard_Key × Bool))
  | 0, _ => none
  | n + 1, s14 => (if s14 < 256 then ((if a0 ≠ ([] : List UInt8) then (keyboard_Name_m (⟨17, toB s14⟩ : keyboard_Key)).bind fun o22 => some (decide (o22 = a0)) else some false)).bind fun (s25 : Bool) => (if s25 = true then some (Sum.inr ((⟨17, toB s14⟩ : keyboard_Key), true)) else (keyboard_Named_l2 K a0 n) (w64 (s14 + 1))) else some (Sum.inl ()))
def keyboard_Named_m (K : Nat) (a0 : (List UInt8)) : Option (keyboard_Key × Bool) := (keyboard_Named_l1 K a0 K 2).bind (onS fun (s12 : Unit) => (keyboard_Named_l2 K a0 K 0).bind (onS fun (s28 : Unit) => some ((⟨0, 0⟩ : keyboard_Key), false)))
theorem keyboard_Named_c (K : Nat) (a0 : (List UInt8)) : Con Tryz.prog 12 #[vS a0] [.ro (kVar 0 83) [] (glob_0.map vS)] (keyboard_Named_m K a0) (fun (o : keyboard_Key × Bool) (x : Unit) => .tuple #[.agg #[.int .i64 o.1.f_Kind, vB o.1.f_Byte], .bool o.2]) (fun (o : keyboard_Key × Bool) (x : Unit) => []) := by
  unfold keyboard_Named_m
  refine con (args := [vS a0]) Tryz.func12 rfl 35 rfl (.c .n) rfl fun c hD hrn => ?_
  refine cSeq (cRegion (lCh (cAlloc (cs := [.int .i64 0, vB 0]) zer_23 rfl) rfl rfl fun b1 => ?_))
  refine lR (dAssign (.c rfl)) (lNil (xCode (cSeq (cSeq (cRegion (lR (dAssign (.c rfl)) (lNil (xCode ?_))))))))
  refine cLoopR (S := Int) (X := Unit) (S' := Unit) (X' := Unit) (keyboard_Named_l1 K a0) (fun (s : Int) (x : Unit) => [(4, .int .i64 s), (3, .bool false), (2, .pointer (some ⟨b1, 0, none⟩)), (0, vS a0)]) (fun (s : Int) (x : Unit) => [.blk b1 [.int .i64 0, vB 0] 23, .ro (kVar 0 83) [] (glob_0.map vS)]) (fun (s : Unit) (x : Unit) => [(3, .bool false), (2, .pointer (some ⟨b1, 0, none⟩)), (0, vS a0)]) (fun (s : Unit) (x : Unit) => [.blk b1 [.int .i64 0, vB 0] 23, .ro (kVar 0 83) [] (glob_0.map vS)]) K 2 () (.c .z (.c .z1 (.c .z2 (.c .z3 .n)))) (.c .z (.c .z .nil)) (fun _ => rfl) (fun n4 I5 h6 s2 x3 => ?_) (fun s12 x13 => ?_)
  ·rw [keyboard_Named_l1]
   refine cSeq (cSeq (cRegion (lM .z (lR (dLt (.t .z) (.c rfl)) (lNil (xCode (cCond (.t .z) (fun h7 => ?_) (fun h7 => ?_))))))))
   ·refine cSkip (xCode (cSeq (cBlock (cSeq (cRegion (lM .z2 (lR (dBuild (cs := [.int .i64 s2, vB 0]) zer_23 rfl plc_23 (.c (.t .z) .n) rfl) (lCall fok_9 (.c (.t .z) .n) (keyboard_Name_c _) (.r .z1 .n) rfl rfl fun o8 x9 h10 => ?_))))))))
    refine lM .z8 (lR (dEqS (.t .z1) (.t .z)) (lNil (xCode (cCond (.t .z) (fun h11 => ?_) (fun h11 => ?_)))))
    ·refine cSeq (cRegion (lM .z7 (lR (dBuild (cs := [.int .i64 s2, vB 0]) zer_23 rfl plc_23 (.c (.t .z) .n) rfl) (lChU (uStoreA (us := [.int .i64 s2, vB 0]) (cs' := [.int .i64 s2, vB 0]) .z siz_23 rfl (by intro u hu; simp only [List.mem_cons, List.not_mem_nil, or_false] at hu; rcases hu with rfl | rfl <;> first | rfl | assumption) rfl (by simp) (.t .z11) (.t .z)) (lRdK (dAssign (.c rfl)) (.k (.k (.k (.k (.k (.k (.k (.k (.k (.k (.d (Keep.refl _)))))))))))) rfl rfl ?_)))))
     exact lNil (xCode (cRet (rInner (rLeave hD (lvRet (rs := [.cell 2 23, .tmp 3]) rfl (.a .z11 .z agg_23 siz_23 (.t .z .n)) () rfl .nil)))))
    ·exact cSkip (xBlock (xCode (cRegion (lM .z7 (lR (dAddI (.t .z) (.c rfl)) (lAK .z (.k (.k (.k (.k (.k (.k (.k (.k (.k (.d (Keep.refl _))))))))))) (lNil (xRound h6 (w64 (s2 + 1)) () (.c .z (.c .z10 (.c .z11 (.c .z12 .n)))) (.c .z (.c .z .nil))))))))))
   ·exact cExit (xOver (xOverF (xBreakR () () (.c .z3 (.c .z4 (.c .z5 .n))) (.c .z (.c .z .nil)))))
  ·refine xCode (cSeq (cSeq (cRegion (lR (dMove (.c rfl)) (lNil (xCode (cLoopR (S := Int) (X := Unit) (S' := Unit) (X' := Unit) (keyboard_Named_l2 K a0) (fun (s : Int) (x : Unit) => [(18, .int .i64 s), (3, .bool false), (2, .pointer (some ⟨b1, 0, none⟩)), (0, vS a0)]) (fun (s : Int) (x : Unit) => [.blk b1 [.int .i64 0, vB 0] 23, .ro (kVar 0 83) [] (glob_0.map vS)]) (fun (s : Unit) (x : Unit) => [(3, .bool false), (2, .pointer (some ⟨b1, 0, none⟩))]) (fun (s : Unit) (x : Unit) => [.blk b1 [.int .i64 0, vB 0] 23, .ro (kVar 0 83) [] (glob_0.map vS)]) K 0 () (.c .z (.c .z1 (.c .z2 (.c .z3 .n)))) (.c .z (.c .z .nil)) (fun _ => rfl) (fun n16 I17 h18 s14 x15 => ?_) (fun s28 x29 => ?_))))))))
   ·rw [keyboard_Named_l2]
    refine cSeq (cRegion (lR (dLt (.t .z) (.c rfl)) (lNil (xCode (cSeq (cCond (.t .z) (fun h19 => ?_) (fun h19 => ?_)))))))
    ·refine cSkip (xCode (cSeq (cBlock (cSeq (cRegion (lM .z1 (lA .z (lNil ?_))))))))
     refine xCode (cSeq (cRegion (lM .z (lR (dConvToB som_3 und_5 (.t .z)) (lR (dBuild (cs := [.int .i64 17, vB (toB s14)]) zer_23 rfl plc_23 (.c (.c rfl) (.c (.t .z) .n)) rfl) (lCh (cAlloc (cs := [.int .i64 0, vB 0]) zer_23 rfl) rfl rfl fun b20 => ?_))))))
     refine lChU (uStoreA (us := [.int .i64 17, vB (toB s14)]) (cs' := [.int .i64 17, vB (toB s14)]) .z siz_23 rfl (by intro u hu; simp only [List.mem_cons, List.not_mem_nil, or_false] at hu; rcases hu with rfl | rfl <;> first | rfl | assumption) rfl (by simp) (.t .z) (.t .z1)) (lNil (xCode (cSeq (cJoin (S := Bool) (X := Unit) (fun (s : Bool) (x : Unit) => [(31, .bool s), (26, .bool (decide (a0 ≠ ([] : List UInt8)))), (25, .bool (decide (a0 ≠ ([] : List UInt8)))), (24, vS a0), (6, .pointer (some ⟨b20, 0, none⟩)), (23, .agg #[.int .i64 17, vB (toB s14)]), (22, vB (toB s14)), (21, .int .i64 s14), (5, .int .i64 s14), (20, .int .i64 s14), (19, .bool (decide (s14 < 256))), (18, .int .i64 s14), (3, .bool false), (2, .pointer (some ⟨b1, 0, none⟩)), (0, vS a0)]) (fun (s : Bool) (x : Unit) => [.blk b20 [.int .i64 17, vB (toB s14)] 23, .blk b1 [.int .i64 0, vB 0] 23, .ro (kVar 0 83) [] (glob_0.map vS)]) ?_ (fun s25 x26 => ?_)))))
     ·refine cRegion (lM .z10 (lR (dNeS (.t .z) (.c (v' := vS ([] : List UInt8)) rfl)) (lM .z (lCase (fun h21 => ?_) (fun h21 => ?_)))))
      ·refine lG .z (decide_eq_true h21) (dLoadA (us := [.int .i64 17, vB (toB s14)]) .z agg_23 siz_23 rfl (.t .z3) rfl) (lCallG rfl .z1 (decide_eq_true h21) fok_9 (.c (.t .z) .n) (keyboard_Name_c _) (.r .z2 .n) rfl rfl fun o22 x23 h24 => ?_)
       exact lG .z2 (decide_eq_true h21) (dMove (.t .z15)) (lG .z3 (decide_eq_true h21) (dEqS (.t .z1) (.t .z)) (lR (dPickT (.t .z4) (decide_eq_true h21) (.t .z)) (lNil (xJoin (decide (o22 = a0)) () (.c .z (.c .z5 (.c .z6 (.c .z7 (.c .z8 (.c .z9 (.c .z10 (.c .z11 (.c .z12 (.c .z13 (.c .z14 (.c .z15 (.c .z16 (.c .z17 (.c .z18 .n))))))))))))))) (.c .z (.c .z (.c .z .nil)))))))
      ·exact lPass rfl .z (nbT (decide_eq_false h21)) rfl (lPass rfl .z (nbT (decide_eq_false h21)) rfl (lPass rfl .z (nbT (decide_eq_false h21)) rfl (lPass rfl .z (nbT (decide_eq_false h21)) rfl (lR (dPickF (.t .z) (decide_eq_false h21) (.c rfl)) (lNil (xJoin false () (.c .z (.c .z1 (.c .z2 (.c .z3 (.c .z4 (.c .z5 (.c .z6 (.c .z7 (.c .z8 (.c .z9 (.c .z10 (.c .z11 (.c .z12 (.c .z13 (.c .z14 .n))))))))))))))) (.c .z (.c .z (.c .z .nil)))))))))
     ·refine xCode (cCondB (.t .z) (fun h27 => ?_) (fun h27 => ?_))
      ·refine cSeq (cRegion (lR (dLoadA (us := [.int .i64 17, vB (toB s14)]) .z agg_23 siz_23 rfl (.t .z4) rfl) (lChU (uStoreA (us := [.int .i64 17, vB (toB s14)]) (cs' := [.int .i64 17, vB (toB s14)]) .z1 siz_23 rfl (by intro u hu; simp only [List.mem_cons, List.not_mem_nil, or_false] at hu; rcases hu with rfl | rfl <;> first | rfl | assumption) rfl (by simp) (.t .z14) (.t .z)) (lRdK (dAssign (.c rfl)) (.k (.k (.k (.k (.k (.k (.k (.k (.k (.k (.k (.k (.k (.d (Keep.refl _))))))))))))))) rfl rfl ?_))))
       exact lNil (xCode (cRet (rInner (rLeave hD (lvRet (rs := [.cell 2 23, .tmp 3]) rfl (.a .z14 .z1 agg_23 siz_23 (.t .z .n)) () rfl .nil)))))
      ·exact cSkip (xBlock (xCode (cRegion (lR (dAddI (.t .z11) (.c rfl)) (lRdK (dMove (.t .z)) (.k (.k (.k (.k (.k (.k (.k (.k (.k (.k (.k (.k (.d (Keep.refl _)))))))))))))) rfl rfl (lNil (xRound h18 (w64 (s14 + 1)) () (.c .z (.c .z13 (.c .z14 (.c .z15 .n)))) (.c .z1 (.c .z1 .nil)))))))))
    ·exact cExit (xOver (xOverF (xBreakR () () (.c .z2 (.c .z3 .n)) (.c .z (.c .z .nil)))))
   ·refine xCode (cSeq (cRegion (lR (dBuild (cs := [.int .i64 0, vB 0]) zer_23 rfl plc_23 .n rfl) (lChU (uStoreA (us := [.int .i64 0, vB 0]) (cs' := [.int .i64 0, vB 0]) .z siz_23 rfl (by intro u hu; simp only [List.mem_cons, List.not_mem_nil, or_false] at hu; rcases hu with rfl | rfl <;> first | rfl | assumption) rfl (by simp) (.t .z2) (.t .z)) (lRdK (dAssign (.c rfl)) (.k (.d (Keep.refl _))) rfl rfl (lKeep (.k (.d (.k .n))) (lNil (xCode ?_))))))))
    exact cRet (rLeave hD (lvRet (rs := [.cell 2 23, .tmp 3]) rfl (.a .z1 .z agg_23 siz_23 (.t .z .n)) () rfl .nil))

-- greenscreen/keyboard.Short
def keyboard_Short_m (a0 : UInt8) : Option (Bool) := (keyboard_plain_m a0).bind fun o1 => (if o1 ≠ ([] : List UInt8) then some (decide (a0 ≠ (125 : UInt8))) else some false)
theorem keyboard_Short_c (a0 : UInt8) : Con Tryz.prog 13 #[vB a0] [] (keyboard_Short_m a0) (fun (o : Bool) (x : Unit) => .bool o) (fun (o : Bool) (x : Unit) => []) := by
  unfold keyboard_Short_m
  refine con (args := [vB a0]) Tryz.func13 rfl 10 rfl (.c .n) rfl fun c hD hrn => ?_
  refine cSeq (cRegion (lR (dAssign (.c rfl)) (lNil (xCode (cSeq (cRegion (lM .z1 (lCall fok_39 (.c (.t .z) .n) (keyboard_plain_c a0) .n rfl rfl fun o1 x2 h3 => ?_))))))))
  refine lR (dNeS (.t .z) (.c (v' := vS ([] : List UInt8)) rfl)) (lM .z (lCase (fun h4 => ?_) (fun h4 => ?_)))
  ·refine lG .z (decide_eq_true h4) (dMove (.t .z5)) (lG .z1 (decide_eq_true h4) (dNeB (.t .z) (.c (v' := vB 125) rfl)) (lR (dPickT (.t .z2) (decide_eq_true h4) (.t .z)) (lAK .z (.k (.k (.k (.k (.k (.k (.k (.d (Keep.refl _))))))))) (lKeep (.k .n) (lNil (xCode (cRet (rLeave hD ?_))))))))
   exact lvRet (rs := [.tmp 2]) rfl (.t .z .n) () rfl .nil
  ·refine lPass rfl .z (nbT (decide_eq_false h4)) rfl (lPass rfl .z (nbT (decide_eq_false h4)) rfl (lR (dPickF (.t .z) (decide_eq_false h4) (.c rfl)) (lAK .z (.k (.k (.k (.k (.k (.d (Keep.refl _))))))) (lKeep (.k .n) (lNil (xCode (cRet (rLeave hD ?_))))))))
   exact lvRet (rs := [.tmp 2]) rfl (.t .z .n) () rfl .nil

-- (*greenscreen/lock.Lock).turn
def lock_Lock_turn_m (a0 : lock_Lock) (a1 : Int) (a2 : Int) : Option (lock_Lock) := ((if a1 ≠ a0.f_state then some (w64 (a0.f_turns + 1)) else some a0.f_turns)).bind fun (s2 : Int) => some (⟨a1, a2, s2⟩ : lock_Lock)
theorem lock_Lock_turn_c (a0 : lock_Lock) (a1 : Int) (a2 : Int) (b0_0 : Nat) : Con Tryz.prog 47 #[.pointer (some ⟨b0_0, 0, none⟩), .int .i64 a1, .int .i64 a2] [.blk b0_0 [.int .i64 a0.f_state, .int .i64 a0.f_why, .int .i64 a0.f_turns] 95] (lock_Lock_turn_m a0 a1 a2) (fun (o : lock_Lock) (x : Unit) => .tuple #[]) (fun (o : lock_Lock) (x : Unit) => [.blk b0_0 [.int .i64 o.f_state, .int .i64 o.f_why, .int .i64 o.f_turns] 95]) := by
  unfold lock_Lock_turn_m
  refine con (args := [.pointer (some ⟨b0_0, 0, none⟩), .int .i64 a1, .int .i64 a2]) Tryz.func47 rfl 27 rfl (.c (.c (.c .n))) rfl fun c hD hrn => ?_
  refine cSeq (cSeq (cRegion (lM .z1 (lM .z1 (lR (dNil (.t .z)) (lR (dFld fld_95_0 (by decide) (.t .z) rfl) (lR (dLoad .z agg_3 (.t .z) rfl) (lR (dNe (.t .z4) (.t .z)) ?_))))))))
  refine lKeep (.k (.d (.d (.d (.d (.d (.k (.k (.k .n))))))))) (lNil (xCode (cJoin (S := Int) (X := Unit) (fun (s : Int) (x : Unit) => [(0, .pointer (some ⟨b0_0, 0, none⟩)), (1, .int .i64 a1), (2, .int .i64 a2)]) (fun (s : Int) (x : Unit) => [.blk b0_0 [.int .i64 a0.f_state, .int .i64 a0.f_why, .int .i64 s] 95]) ?_ (fun s2 x3 => ?_))))
  ·refine cCond (.t .z) (fun h1 => ?_) (fun h1 => ?_)
   ·refine cRegion (lM .z1 (lR (dNil (.t .z)) (lR (dFld fld_95_2 (by decide) (.t .z) rfl) (lR (dLoad .z agg_3 (.t .z) rfl) (lR (dAddI (.t .z) (.c rfl)) (lR (dNil (.t .z4)) (lR (dFld fld_95_2 (by decide) (.t .z) rfl) (lChU (uStore .z siz_3 rfl .z2 (.t .z) (.t .z2)) ?_))))))))
    exact lKeep (.d (.d (.d (.d (.d (.d (.d (.d (.k (.k (.k .n))))))))))) (lNil (xJoin (w64 (a0.f_turns + 1)) () (.c .z (.c .z1 (.c .z2 .n))) (.c .z .nil)))
   ·exact cSkip (xJoin a0.f_turns () (.c .z1 (.c .z2 (.c .z3 .n))) (.c .z .nil))
  ·refine xCode (cRegion (lM .z (lM .z1 (lM .z3 (lM .z5 (lR (dNil (.t .z3)) (lR (dFld fld_95_0 (by decide) (.t .z) rfl) (lChU (uStore .z siz_3 rfl .z (.t .z) (.t .z3)) ?_))))))))
   exact lR (dNil (.t .z4)) (lR (dFld fld_95_1 (by decide) (.t .z) rfl) (lChU (uStore .z siz_52 rfl .z1 (.t .z) (.t .z4)) (lKeep .n (lNil (xLeave hD (lvRet (rs := []) rfl .n () rfl (.c .z .nil)))))))

-- (*greenscreen/lock.Lock).Open
def lock_Lock_Open_m (a0 : lock_Lock) : Option (lock_Lock) := (lock_Lock_turn_m a0 1 0).bind fun o1 => some o1
theorem lock_Lock_Open_c (a0 : lock_Lock) (b0_0 : Nat) : Con Tryz.prog 21 #[.pointer (some ⟨b0_0, 0, none⟩)] [.blk b0_0 [.int .i64 a0.f_state, .int .i64 a0.f_why, .int .i64 a0.f_turns] 95] (lock_Lock_Open_m a0) (fun (o : lock_Lock) (x : Unit) => .tuple #[]) (fun (o : lock_Lock) (x : Unit) => [.blk b0_0 [.int .i64 o.f_state, .int .i64 o.f_why, .int .i64 o.f_turns] 95]) := by
  unfold lock_Lock_Open_m
  refine con (args := [.pointer (some ⟨b0_0, 0, none⟩)]) Tryz.func21 rfl 4 rfl (.c .n) rfl fun c hD hrn => ?_
  refine cRegion (lM .z (lCallN fok_47 (.c (.t .z) (.c (.c rfl) (.c (.c rfl) .n))) (lock_Lock_turn_c a0 1 0 b0_0) (.c .z .n) rfl fun o1 x2 h3 => ?_))
  exact lKeep .n (lNil (xLeave hD (lvRet (rs := []) rfl .n () rfl (.c .z .nil))))

-- (*greenscreen/lock.Lock).Restore
def lock_Lock_Restore_m (a0 : lock_Lock) : Option (lock_Lock × Bool) := ((if a0.f_state ≠ 3 then some (decide (a0.f_state ≠ 2)) else some false)).bind fun (s2 : Bool) => (if s2 = true then some (a0, false) else (lock_Lock_Open_m a0).bind fun o5 => some (o5, true))
theorem lock_Lock_Restore_c (a0 : lock_Lock) (b0_0 : Nat) : Con Tryz.prog 43 #[.pointer (some ⟨b0_0, 0, none⟩)] [.blk b0_0 [.int .i64 a0.f_state, .int .i64 a0.f_why, .int .i64 a0.f_turns] 95] (lock_Lock_Restore_m a0) (fun (o : lock_Lock × Bool) (x : Unit) => .bool o.2) (fun (o : lock_Lock × Bool) (x : Unit) => [.blk b0_0 [.int .i64 o.1.f_state, .int .i64 o.1.f_why, .int .i64 o.1.f_turns] 95]) := by
  unfold lock_Lock_Restore_m
  refine con (args := [.pointer (some ⟨b0_0, 0, none⟩)]) Tryz.func43 rfl 17 rfl (.c .n) rfl fun c hD hrn => ?_
  refine cSeq (cRegion (lR (dAssign (.c rfl)) (lNil (xCode (cSeq (cSeq (cJoin (S := Bool) (X := Unit) (fun (s : Bool) (x : Unit) => [(14, .bool s), (2, .bool false), (0, .pointer (some ⟨b0_0, 0, none⟩))]) (fun (s : Bool) (x : Unit) => [.blk b0_0 [.int .i64 a0.f_state, .int .i64 a0.f_why, .int .i64 a0.f_turns] 95]) ?_ (fun s2 x3 => ?_))))))))
  ·refine cRegion (lM .z1 (lR (dNil (.t .z)) (lR (dFld fld_95_0 (by decide) (.t .z) rfl) (lR (dLoad .z agg_3 (.t .z) rfl) (lR (dNe (.t .z) (.c rfl)) (lM .z (lCase (fun h1 => ?_) (fun h1 => ?_))))))))
   ·refine lG .z (decide_eq_true h1) (dMove (.t .z7)) (lG .z1 (decide_eq_true h1) (dNil (.t .z)) (lG .z2 (decide_eq_true h1) (dFld fld_95_0 (by decide) (.t .z) rfl) (lG .z3 (decide_eq_true h1) (dLoad .z agg_3 (.t .z) rfl) (lG .z4 (decide_eq_true h1) (dNe (.t .z) (.c rfl)) (lR (dPickT (.t .z5) (decide_eq_true h1) (.t .z)) (lKeep (.k (.d (.d (.d (.d (.d (.d (.d (.d (.d (.d (.d (.k (.k .n)))))))))))))) ?_))))))
    exact lNil (xJoin (decide (a0.f_state ≠ 2)) () (.c .z (.c .z1 (.c .z2 .n))) (.c .z .nil))
   ·exact lPass rfl .z (nbT (decide_eq_false h1)) rfl (lPass rfl .z (nbT (decide_eq_false h1)) rfl (lPass rfl .z (nbT (decide_eq_false h1)) rfl (lPass rfl .z (nbT (decide_eq_false h1)) rfl (lPass rfl .z (nbT (decide_eq_false h1)) rfl (lR (dPickF (.t .z) (decide_eq_false h1) (.c rfl)) (lKeep (.k (.d (.d (.d (.d (.d (.d (.k (.k .n))))))))) (lNil (xJoin false () (.c .z (.c .z1 (.c .z2 .n))) (.c .z .nil)))))))))
  ·refine xCode (cCondB (.t .z) (fun h4 => ?_) (fun h4 => ?_))
   ·exact cSeq (cRegion (lRdK (dAssign (.c rfl)) (.k (.d (Keep.refl _))) rfl rfl (lKeep (.k (.d (.k .n))) (lNil (xCode (cRet (rLeave hD (lvRet (rs := [.tmp 2]) rfl (.t .z .n) () rfl (.c .z .nil)))))))))
   ·refine cSkip (xCode (cSeq (cRegion (lM .z2 (lCallN fok_21 (.c (.t .z) .n) (lock_Lock_Open_c a0 b0_0) (.c .z .n) rfl fun o5 x6 h7 => ?_)))))
    refine lKeep (.d (.d (.k .n))) (lNil (xCode (cSeq (cRegion (lRdK (dAssign (.c rfl)) (.d (Keep.refl _)) rfl rfl (lNil (xCode (cRet ?_))))))))
    exact rLeave hD (lvRet (rs := [.tmp 2]) rfl (.t .z .n) () rfl (.c .z .nil))

-- (*greenscreen/lock.Lock).turn
def lock_Lock_turn_v0_m (a0 : keyboard_Keyboard) (a1 : Int) (a2 : Int) : Option (keyboard_Keyboard) := ((if a1 ≠ a0.f_l.f_state then some (w64 (a0.f_l.f_turns + 1)) else some a0.f_l.f_turns)).bind fun (s2 : Int) => some (⟨a0.f_s, (⟨a1, a2, s2⟩ : lock_Lock), a0.f_insert, a0.f_last⟩ : keyboard_Keyboard)
theorem lock_Lock_turn_v0_c (a0 : keyboard_Keyboard) (a1 : Int) (a2 : Int) (b0_0 : Nat) (b0_1 : Nat) (b0_2 : Nat) (v0_3 : Value) : Con Tryz.prog 47 #[.pointer (some ⟨b0_0, 1, none⟩), .int .i64 a1, .int .i64 a2] [.blk b0_0 [.pointer (some ⟨b0_1, 0, none⟩), .int .i64 a0.f_l.f_state, .int .i64 a0.f_l.f_why, .int .i64 a0.f_l.f_turns, .bool a0.f_insert, vB a0.f_last] 97, .blk b0_1 [.int .i64 a0.f_s.f_sizes_0.f_Rows, .int .i64 a0.f_s.f_sizes_0.f_Cols, .int .i64 a0.f_s.f_sizes_1.f_Rows, .int .i64 a0.f_s.f_sizes_1.f_Cols, .int .i64 a0.f_s.f_which, .pointer (some ⟨b0_2, 0, none⟩)] 124, .blk b0_2 [.int .i64 a0.f_s.f_p.f_size.f_Rows, .int .i64 a0.f_s.f_p.f_size.f_Cols, v0_3, .int .i64 a0.f_s.f_p.f_cursor] 126, .own v0_3 80 k_api_Cell a0.f_s.f_p.f_cells] (lock_Lock_turn_v0_m a0 a1 a2) (fun (o : keyboard_Keyboard) (x : Unit) => .tuple #[]) (fun (o : keyboard_Keyboard) (x : Unit) => [.blk b0_0 [.pointer (some ⟨b0_1, 0, none⟩), .int .i64 o.f_l.f_state, .int .i64 o.f_l.f_why, .int .i64 o.f_l.f_turns, .bool o.f_insert, vB o.f_last] 97, .blk b0_1 [.int .i64 o.f_s.f_sizes_0.f_Rows, .int .i64 o.f_s.f_sizes_0.f_Cols, .int .i64 o.f_s.f_sizes_1.f_Rows, .int .i64 o.f_s.f_sizes_1.f_Cols, .int .i64 o.f_s.f_which, .pointer (some ⟨b0_2, 0, none⟩)] 124, .blk b0_2 [.int .i64 o.f_s.f_p.f_size.f_Rows, .int .i64 o.f_s.f_p.f_size.f_Cols, v0_3, .int .i64 o.f_s.f_p.f_cursor] 126, .own v0_3 80 k_api_Cell o.f_s.f_p.f_cells]) := by
  unfold lock_Lock_turn_v0_m
  refine con (args := [.pointer (some ⟨b0_0, 1, none⟩), .int .i64 a1, .int .i64 a2]) Tryz.func47 rfl 27 rfl (.c (.c (.c .n))) rfl fun c hD hrn => ?_
  refine cSeq (cSeq (cRegion (lM .z1 (lM .z1 (lR (dNil (.t .z)) (lR (dFld fld_95_0 (by decide) (.t .z) rfl) (lR (dLoad .z agg_3 (.t .z) rfl) (lR (dNe (.t .z4) (.t .z)) ?_))))))))
  refine lKeep (.k (.d (.d (.d (.d (.d (.k (.k (.k .n))))))))) (lNil (xCode (cJoin (S := Int) (X := Unit) (fun (s : Int) (x : Unit) => [(0, .pointer (some ⟨b0_0, 1, none⟩)), (1, .int .i64 a1), (2, .int .i64 a2)]) (fun (s : Int) (x : Unit) => [.blk b0_0 [.pointer (some ⟨b0_1, 0, none⟩), .int .i64 a0.f_l.f_state, .int .i64 a0.f_l.f_why, .int .i64 s, .bool a0.f_insert, vB a0.f_last] 97, .blk b0_1 [.int .i64 a0.f_s.f_sizes_0.f_Rows, .int .i64 a0.f_s.f_sizes_0.f_Cols, .int .i64 a0.f_s.f_sizes_1.f_Rows, .int .i64 a0.f_s.f_sizes_1.f_Cols, .int .i64 a0.f_s.f_which, .pointer (some ⟨b0_2, 0, none⟩)] 124, .blk b0_2 [.int .i64 a0.f_s.f_p.f_size.f_Rows, .int .i64 a0.f_s.f_p.f_size.f_Cols, v0_3, .int .i64 a0.f_s.f_p.f_cursor] 126, .own v0_3 80 k_api_Cell a0.f_s.f_p.f_cells]) ?_ (fun s2 x3 => ?_))))
  ·refine cCond (.t .z) (fun h1 => ?_) (fun h1 => ?_)
   ·refine cRegion (lM .z1 (lR (dNil (.t .z)) (lR (dFld fld_95_2 (by decide) (.t .z) rfl) (lR (dLoad .z agg_3 (.t .z) rfl) (lR (dAddI (.t .z) (.c rfl)) (lR (dNil (.t .z4)) (lR (dFld fld_95_2 (by decide) (.t .z) rfl) (lChU (uStore .z siz_3 rfl .z3 (.t .z) (.t .z2)) ?_))))))))
    exact lKeep (.d (.d (.d (.d (.d (.d (.d (.d (.k (.k (.k .n))))))))))) (lNil (xJoin (w64 (a0.f_l.f_turns + 1)) () (.c .z (.c .z1 (.c .z2 .n))) (.c .z (.c .z (.c .z (.c .z .nil))))))
   ·exact cSkip (xJoin a0.f_l.f_turns () (.c .z1 (.c .z2 (.c .z3 .n))) (.c .z (.c .z (.c .z (.c .z .nil)))))
  ·refine xCode (cRegion (lM .z (lM .z1 (lM .z3 (lM .z5 (lR (dNil (.t .z3)) (lR (dFld fld_95_0 (by decide) (.t .z) rfl) (lChU (uStore .z siz_3 rfl .z1 (.t .z) (.t .z3)) ?_))))))))
   exact lR (dNil (.t .z4)) (lR (dFld fld_95_1 (by decide) (.t .z) rfl) (lChU (uStore .z siz_52 rfl .z2 (.t .z) (.t .z4)) (lKeep .n (lNil (xLeave hD (lvRet (rs := []) rfl .n () rfl (.c .z (.c .z (.c .z (.c .z .nil))))))))))

-- (*greenscreen/lock.Lock).Open
def lock_Lock_Open_v0_m (a0 : keyboard_Keyboard) : Option (keyboard_Keyboard) := (lock_Lock_turn_v0_m a0 1 0).bind fun o1 => some o1
theorem lock_Lock_Open_v0_c (a0 : keyboard_Keyboard) (b0_0 : Nat) (b0_1 : Nat) (b0_2 : Nat) (v0_3 : Value) : Con Tryz.prog 21 #[.pointer (some ⟨b0_0, 1, none⟩)] [.blk b0_0 [.pointer (some ⟨b0_1, 0, none⟩), .int .i64 a0.f_l.f_state, .int .i64 a0.f_l.f_why, .int .i64 a0.f_l.f_turns, .bool a0.f_insert, vB a0.f_last] 97, .blk b0_1 [.int .i64 a0.f_s.f_sizes_0.f_Rows, .int .i64 a0.f_s.f_sizes_0.f_Cols, .int .i64 a0.f_s.f_sizes_1.f_Rows, .int .i64 a0.f_s.f_sizes_1.f_Cols, .int .i64 a0.f_s.f_which, .pointer (some ⟨b0_2, 0, none⟩)] 124, .blk b0_2 [.int .i64 a0.f_s.f_p.f_size.f_Rows, .int .i64 a0.f_s.f_p.f_size.f_Cols, v0_3, .int .i64 a0.f_s.f_p.f_cursor] 126, .own v0_3 80 k_api_Cell a0.f_s.f_p.f_cells] (lock_Lock_Open_v0_m a0) (fun (o : keyboard_Keyboard) (x : Unit) => .tuple #[]) (fun (o : keyboard_Keyboard) (x : Unit) => [.blk b0_0 [.pointer (some ⟨b0_1, 0, none⟩), .int .i64 o.f_l.f_state, .int .i64 o.f_l.f_why, .int .i64 o.f_l.f_turns, .bool o.f_insert, vB o.f_last] 97, .blk b0_1 [.int .i64 o.f_s.f_sizes_0.f_Rows, .int .i64 o.f_s.f_sizes_0.f_Cols, .int .i64 o.f_s.f_sizes_1.f_Rows, .int .i64 o.f_s.f_sizes_1.f_Cols, .int .i64 o.f_s.f_which, .pointer (some ⟨b0_2, 0, none⟩)] 124, .blk b0_2 [.int .i64 o.f_s.f_p.f_size.f_Rows, .int .i64 o.f_s.f_p.f_size.f_Cols, v0_3, .int .i64 o.f_s.f_p.f_cursor] 126, .own v0_3 80 k_api_Cell o.f_s.f_p.f_cells]) := by
  unfold lock_Lock_Open_v0_m
  refine con (args := [.pointer (some ⟨b0_0, 1, none⟩)]) Tryz.func21 rfl 4 rfl (.c .n) rfl fun c hD hrn => ?_
  refine cRegion (lM .z (lCallN fok_47 (.c (.t .z) (.c (.c rfl) (.c (.c rfl) .n))) (lock_Lock_turn_v0_c a0 1 0 b0_0 b0_1 b0_2 v0_3) (.c .z (.c .z (.c .z (.c .z .n)))) rfl fun o1 x2 h3 => ?_))
  exact lKeep .n (lNil (xLeave hD (lvRet (rs := []) rfl .n () rfl (.c .z (.c .z (.c .z (.c .z .nil)))))))

-- (*greenscreen/lock.Lock).Restore
def lock_Lock_Restore_v0_m (a0 : keyboard_Keyboard) : Option (keyboard_Keyboard × Bool) := ((if a0.f_l.f_state ≠ 3 then some (decide (a0.f_l.f_state ≠ 2)) else some false)).bind fun (s2 : Bool) => (if s2 = true then some (a0, false) else (lock_Lock_Open_v0_m a0).bind fun o5 => some (o5, true))
theorem lock_Lock_Restore_v0_c (a0 : keyboard_Keyboard) (b0_0 : Nat) (b0_1 : Nat) (b0_2 : Nat) (v0_3 : Value) : Con Tryz.prog 43 #[.pointer (some ⟨b0_0, 1, none⟩)] [.blk b0_0 [.pointer (some ⟨b0_1, 0, none⟩), .int .i64 a0.f_l.f_state, .int .i64 a0.f_l.f_why, .int .i64 a0.f_l.f_turns, .bool a0.f_insert, vB a0.f_last] 97, .blk b0_1 [.int .i64 a0.f_s.f_sizes_0.f_Rows, .int .i64 a0.f_s.f_sizes_0.f_Cols, .int .i64 a0.f_s.f_sizes_1.f_Rows, .int .i64 a0.f_s.f_sizes_1.f_Cols, .int .i64 a0.f_s.f_which, .pointer (some ⟨b0_2, 0, none⟩)] 124, .blk b0_2 [.int .i64 a0.f_s.f_p.f_size.f_Rows, .int .i64 a0.f_s.f_p.f_size.f_Cols, v0_3, .int .i64 a0.f_s.f_p.f_cursor] 126, .own v0_3 80 k_api_Cell a0.f_s.f_p.f_cells] (lock_Lock_Restore_v0_m a0) (fun (o : keyboard_Keyboard × Bool) (x : Unit) => .bool o.2) (fun (o : keyboard_Keyboard × Bool) (x : Unit) => [.blk b0_0 [.pointer (some ⟨b0_1, 0, none⟩), .int .i64 o.1.f_l.f_state, .int .i64 o.1.f_l.f_why, .int .i64 o.1.f_l.f_turns, .bool o.1.f_insert, vB o.1.f_last] 97, .blk b0_1 [.int .i64 o.1.f_s.f_sizes_0.f_Rows, .int .i64 o.1.f_s.f_sizes_0.f_Cols, .int .i64 o.1.f_s.f_sizes_1.f_Rows, .int .i64 o.1.f_s.f_sizes_1.f_Cols, .int .i64 o.1.f_s.f_which, .pointer (some ⟨b0_2, 0, none⟩)] 124, .blk b0_2 [.int .i64 o.1.f_s.f_p.f_size.f_Rows, .int .i64 o.1.f_s.f_p.f_size.f_Cols, v0_3, .int .i64 o.1.f_s.f_p.f_cursor] 126, .own v0_3 80 k_api_Cell o.1.f_s.f_p.f_cells]) := by
  unfold lock_Lock_Restore_v0_m
  refine con (args := [.pointer (some ⟨b0_0, 1, none⟩)]) Tryz.func43 rfl 17 rfl (.c .n) rfl fun c hD hrn => ?_
  refine cSeq (cRegion (lR (dAssign (.c rfl)) (lNil (xCode (cSeq (cSeq (cJoin (S := Bool) (X := Unit) (fun (s : Bool) (x : Unit) => [(14, .bool s), (2, .bool false), (0, .pointer (some ⟨b0_0, 1, none⟩))]) (fun (s : Bool) (x : Unit) => [.blk b0_0 [.pointer (some ⟨b0_1, 0, none⟩), .int .i64 a0.f_l.f_state, .int .i64 a0.f_l.f_why, .int .i64 a0.f_l.f_turns, .bool a0.f_insert, vB a0.f_last] 97, .blk b0_1 [.int .i64 a0.f_s.f_sizes_0.f_Rows, .int .i64 a0.f_s.f_sizes_0.f_Cols, .int .i64 a0.f_s.f_sizes_1.f_Rows, .int .i64 a0.f_s.f_sizes_1.f_Cols, .int .i64 a0.f_s.f_which, .pointer (some ⟨b0_2, 0, none⟩)] 124, .blk b0_2 [.int .i64 a0.f_s.f_p.f_size.f_Rows, .int .i64 a0.f_s.f_p.f_size.f_Cols, v0_3, .int .i64 a0.f_s.f_p.f_cursor] 126, .own v0_3 80 k_api_Cell a0.f_s.f_p.f_cells]) ?_ (fun s2 x3 => ?_))))))))
  ·refine cRegion (lM .z1 (lR (dNil (.t .z)) (lR (dFld fld_95_0 (by decide) (.t .z) rfl) (lR (dLoad .z agg_3 (.t .z) rfl) (lR (dNe (.t .z) (.c rfl)) (lM .z (lCase (fun h1 => ?_) (fun h1 => ?_))))))))
   ·refine lG .z (decide_eq_true h1) (dMove (.t .z7)) (lG .z1 (decide_eq_true h1) (dNil (.t .z)) (lG .z2 (decide_eq_true h1) (dFld fld_95_0 (by decide) (.t .z) rfl) (lG .z3 (decide_eq_true h1) (dLoad .z agg_3 (.t .z) rfl) (lG .z4 (decide_eq_true h1) (dNe (.t .z) (.c rfl)) (lR (dPickT (.t .z5) (decide_eq_true h1) (.t .z)) (lKeep (.k (.d (.d (.d (.d (.d (.d (.d (.d (.d (.d (.d (.k (.k .n)))))))))))))) ?_))))))
    exact lNil (xJoin (decide (a0.f_l.f_state ≠ 2)) () (.c .z (.c .z1 (.c .z2 .n))) (.c .z (.c .z (.c .z (.c .z .nil)))))
   ·exact lPass rfl .z (nbT (decide_eq_false h1)) rfl (lPass rfl .z (nbT (decide_eq_false h1)) rfl (lPass rfl .z (nbT (decide_eq_false h1)) rfl (lPass rfl .z (nbT (decide_eq_false h1)) rfl (lPass rfl .z (nbT (decide_eq_false h1)) rfl (lR (dPickF (.t .z) (decide_eq_false h1) (.c rfl)) (lKeep (.k (.d (.d (.d (.d (.d (.d (.k (.k .n))))))))) (lNil (xJoin false () (.c .z (.c .z1 (.c .z2 .n))) (.c .z (.c .z (.c .z (.c .z .nil))))))))))))
  ·refine xCode (cCondB (.t .z) (fun h4 => ?_) (fun h4 => ?_))
   ·exact cSeq (cRegion (lRdK (dAssign (.c rfl)) (.k (.d (Keep.refl _))) rfl rfl (lKeep (.k (.d (.k .n))) (lNil (xCode (cRet (rLeave hD (lvRet (rs := [.tmp 2]) rfl (.t .z .n) () rfl (.c .z (.c .z (.c .z (.c .z .nil))))))))))))
   ·refine cSkip (xCode (cSeq (cRegion (lM .z2 (lCallN fok_21 (.c (.t .z) .n) (lock_Lock_Open_v0_c a0 b0_0 b0_1 b0_2 v0_3) (.c .z (.c .z (.c .z (.c .z .n)))) rfl fun o5 x6 h7 => ?_)))))
    refine lKeep (.d (.d (.k .n))) (lNil (xCode (cSeq (cRegion (lRdK (dAssign (.c rfl)) (.d (Keep.refl _)) rfl rfl (lNil (xCode (cRet ?_))))))))
    exact rLeave hD (lvRet (rs := [.tmp 2]) rfl (.t .z .n) () rfl (.c .z (.c .z (.c .z (.c .z .nil)))))

-- (*greenscreen/keyboard.Keyboard).Host
def keyboard_Keyboard_Host_m (a0 : keyboard_Keyboard) (a1 : screen_Result) : Option (keyboard_Keyboard) := (if a1.f_Restore = true then (lock_Lock_Restore_v0_m a0).bind fun o3 => some (⟨o3.1.f_s, o3.1.f_l, false, (96 : UInt8)⟩ : keyboard_Keyboard) else some a0)
theorem keyboard_Keyboard_Host_c (a0 : keyboard_Keyboard) (a1 : screen_Result) (b0_0 : Nat) (b0_1 : Nat) (b0_2 : Nat) (v0_3 : Value) : Con Tryz.prog 17 #[.pointer (some ⟨b0_0, 0, none⟩), .agg #[vB a1.f_Reply, .bool a1.f_Restore, .bool a1.f_Alarm, .int .i64 a1.f_Err]] [.blk b0_0 [.pointer (some ⟨b0_1, 0, none⟩), .int .i64 a0.f_l.f_state, .int .i64 a0.f_l.f_why, .int .i64 a0.f_l.f_turns, .bool a0.f_insert, vB a0.f_last] 97, .blk b0_1 [.int .i64 a0.f_s.f_sizes_0.f_Rows, .int .i64 a0.f_s.f_sizes_0.f_Cols, .int .i64 a0.f_s.f_sizes_1.f_Rows, .int .i64 a0.f_s.f_sizes_1.f_Cols, .int .i64 a0.f_s.f_which, .pointer (some ⟨b0_2, 0, none⟩)] 124, .blk b0_2 [.int .i64 a0.f_s.f_p.f_size.f_Rows, .int .i64 a0.f_s.f_p.f_size.f_Cols, v0_3, .int .i64 a0.f_s.f_p.f_cursor] 126, .own v0_3 80 k_api_Cell a0.f_s.f_p.f_cells] (keyboard_Keyboard_Host_m a0 a1) (fun (o : keyboard_Keyboard) (x : Unit) => .tuple #[]) (fun (o : keyboard_Keyboard) (x : Unit) => [.blk b0_0 [.pointer (some ⟨b0_1, 0, none⟩), .int .i64 o.f_l.f_state, .int .i64 o.f_l.f_why, .int .i64 o.f_l.f_turns, .bool o.f_insert, vB o.f_last] 97, .blk b0_1 [.int .i64 o.f_s.f_sizes_0.f_Rows, .int .i64 o.f_s.f_sizes_0.f_Cols, .int .i64 o.f_s.f_sizes_1.f_Rows, .int .i64 o.f_s.f_sizes_1.f_Cols, .int .i64 o.f_s.f_which, .pointer (some ⟨b0_2, 0, none⟩)] 124, .blk b0_2 [.int .i64 o.f_s.f_p.f_size.f_Rows, .int .i64 o.f_s.f_p.f_size.f_Cols, v0_3, .int .i64 o.f_s.f_p.f_cursor] 126, .own v0_3 80 k_api_Cell o.f_s.f_p.f_cells]) := by
  unfold keyboard_Keyboard_Host_m
  refine con (args := [.pointer (some ⟨b0_0, 0, none⟩), .agg #[vB a1.f_Reply, .bool a1.f_Restore, .bool a1.f_Alarm, .int .i64 a1.f_Err]]) Tryz.func17 rfl 16 rfl (.c (.c .n)) rfl fun c hD hrn => ?_
  refine cSeq (cRegion (lCh (cBox (cs := [vB a1.f_Reply, .bool a1.f_Restore, .bool a1.f_Alarm, .int .i64 a1.f_Err]) (.t .z1) rfl) rfl rfl fun b1 => ?_))
  refine lKeep (.k (.k .n)) (lNil (xCode (cSeq (cRegion (lR (dFld fld_54_1 (by decide) (.t .z) rfl) (lR (dLoad .z agg_4 (.t .z) rfl) (lKeep (.k (.d (.d (.k .n)))) (lNil ?_))))))))
  refine xCode (cCondB (.t .z) (fun h2 => ?_) (fun h2 => ?_))
  ·refine cSeq (cRegion (lM .z1 (lR (dNil (.t .z)) (lR (dFld fld_97_1 (by decide) (.t .z) rfl) (lCallN fok_43 (.c (.t .z) .n) (lock_Lock_Restore_v0_c a0 b0_0 b0_1 b0_2 v0_3) (.c .z1 (.c .z1 (.c .z1 (.c .z1 .n)))) rfl fun o3 x4 h5 => ?_)))))
   refine lKeep (.d (.d (.d (.d (.k .n))))) (lNil (xCode (cRegion (lM .z (lM .z1 (lR (dNil (.t .z1)) (lR (dFld fld_97_2 (by decide) (.t .z) rfl) (lChU (uStore .z siz_4 rfl .z4 (.t .z) (.c rfl)) ?_))))))))
   exact lR (dNil (.t .z2)) (lR (dFld fld_97_3 (by decide) (.t .z) rfl) (lChU (uStore .z siz_5 rfl .z5 (.t .z) (.c (v' := vB 96) rfl)) (lKeep .n (lNil (xLeave hD (lvRet (rs := []) rfl .n () rfl (.c .z (.c .z (.c .z (.c .z .nil))))))))))
  ·exact cSkip (xLeave hD (lvRet (rs := []) rfl .n () rfl (.c .z1 (.c .z1 (.c .z1 (.c .z1 .nil))))))

-- (*greenscreen/keyboard.Keyboard).Lock
def keyboard_Keyboard_Lock_m (a0 : keyboard_Keyboard) : Option (Unit) := some ()
theorem keyboard_Keyboard_Lock_c (a0 : keyboard_Keyboard) (b0_0 : Nat) (b0_1 : Nat) (b0_2 : Nat) (v0_3 : Value) : Con Tryz.prog 20 #[.pointer (some ⟨b0_0, 0, none⟩)] [.blk b0_0 [.pointer (some ⟨b0_1, 0, none⟩), .int .i64 a0.f_l.f_state, .int .i64 a0.f_l.f_why, .int .i64 a0.f_l.f_turns, .bool a0.f_insert, vB a0.f_last] 97, .blk b0_1 [.int .i64 a0.f_s.f_sizes_0.f_Rows, .int .i64 a0.f_s.f_sizes_0.f_Cols, .int .i64 a0.f_s.f_sizes_1.f_Rows, .int .i64 a0.f_s.f_sizes_1.f_Cols, .int .i64 a0.f_s.f_which, .pointer (some ⟨b0_2, 0, none⟩)] 124, .blk b0_2 [.int .i64 a0.f_s.f_p.f_size.f_Rows, .int .i64 a0.f_s.f_p.f_size.f_Cols, v0_3, .int .i64 a0.f_s.f_p.f_cursor] 126, .own v0_3 80 k_api_Cell a0.f_s.f_p.f_cells] (keyboard_Keyboard_Lock_m a0) (fun (o : Unit) (x : Unit) => .pointer (some ⟨b0_0, 1, none⟩)) (fun (o : Unit) (x : Unit) => [.blk b0_0 [.pointer (some ⟨b0_1, 0, none⟩), .int .i64 a0.f_l.f_state, .int .i64 a0.f_l.f_why, .int .i64 a0.f_l.f_turns, .bool a0.f_insert, vB a0.f_last] 97, .blk b0_1 [.int .i64 a0.f_s.f_sizes_0.f_Rows, .int .i64 a0.f_s.f_sizes_0.f_Cols, .int .i64 a0.f_s.f_sizes_1.f_Rows, .int .i64 a0.f_s.f_sizes_1.f_Cols, .int .i64 a0.f_s.f_which, .pointer (some ⟨b0_2, 0, none⟩)] 124, .blk b0_2 [.int .i64 a0.f_s.f_p.f_size.f_Rows, .int .i64 a0.f_s.f_p.f_size.f_Cols, v0_3, .int .i64 a0.f_s.f_p.f_cursor] 126, .own v0_3 80 k_api_Cell a0.f_s.f_p.f_cells]) := by
  unfold keyboard_Keyboard_Lock_m
  refine con (args := [.pointer (some ⟨b0_0, 0, none⟩)]) Tryz.func20 rfl 6 rfl (.c .n) rfl fun c hD hrn => ?_
  refine cSeq (cRegion (lR (dAssign (.c rfl)) (lNil (xCode (cSeq (cRegion (lM .z1 (lR (dNil (.t .z)) ?_))))))))
  exact lR (dFld fld_97_1 (by decide) (.t .z) rfl) (lAK .z (.k (.k (.k (.d (Keep.refl _))))) (lKeep (.k .n) (lNil (xCode (cRet (rLeave hD (lvRet (rs := [.tmp 2]) rfl (.t .z .n) () rfl (.c .z (.c .z (.c .z (.c .z .nil)))))))))))

-- (*greenscreen/screen.Screen).Plane
def screen_Screen_Plane_m (a0 : screen_Screen) : Option (Unit) := some ()
theorem screen_Screen_Plane_c (a0 : screen_Screen) (b0_0 : Nat) (b0_1 : Nat) (v0_2 : Value) : Con Tryz.prog 26 #[.pointer (some ⟨b0_0, 0, none⟩)] [.blk b0_0 [.int .i64 a0.f_sizes_0.f_Rows, .int .i64 a0.f_sizes_0.f_Cols, .int .i64 a0.f_sizes_1.f_Rows, .int .i64 a0.f_sizes_1.f_Cols, .int .i64 a0.f_which, .pointer (some ⟨b0_1, 0, none⟩)] 124, .blk b0_1 [.int .i64 a0.f_p.f_size.f_Rows, .int .i64 a0.f_p.f_size.f_Cols, v0_2, .int .i64 a0.f_p.f_cursor] 126, .own v0_2 80 k_api_Cell a0.f_p.f_cells] (screen_Screen_Plane_m a0) (fun (o : Unit) (x : Unit) => .pointer (some ⟨b0_1, 0, none⟩)) (fun (o : Unit) (x : Unit) => [.blk b0_0 [.int .i64 a0.f_sizes_0.f_Rows, .int .i64 a0.f_sizes_0.f_Cols, .int .i64 a0.f_sizes_1.f_Rows, .int .i64 a0.f_sizes_1.f_Cols, .int .i64 a0.f_which, .pointer (some ⟨b0_1, 0, none⟩)] 124, .blk b0_1 [.int .i64 a0.f_p.f_size.f_Rows, .int .i64 a0.f_p.f_size.f_Cols, v0_2, .int .i64 a0.f_p.f_cursor] 126, .own v0_2 80 k_api_Cell a0.f_p.f_cells]) := by
  unfold screen_Screen_Plane_m
  refine con (args := [.pointer (some ⟨b0_0, 0, none⟩)]) Tryz.func26 rfl 7 rfl (.c .n) rfl fun c hD hrn => ?_
  refine cSeq (cRegion (lR (dAssign (.c rfl)) (lNil (xCode (cSeq (cRegion (lM .z1 (lR (dNil (.t .z)) ?_))))))))
  exact lR (dFld fld_124_2 (by decide) (.t .z) rfl) (lR (dLoad .z agg_70 (.t .z) rfl) (lAK .z (.k (.k (.k (.k (.d (Keep.refl _)))))) (lKeep (.k .n) (lNil (xCode (cRet (rLeave hD (lvRet (rs := [.tmp 2]) rfl (.t .z .n) () rfl (.c .z (.c .z (.c .z .nil)))))))))))

-- (*greenscreen/lock.Lock).May
def lock_Lock_May_m (a0 : lock_Lock) : Option (Int) := (if a0.f_state ≠ 1 then some 40 else some 0)
theorem lock_Lock_May_c (a0 : lock_Lock) (b0_0 : Nat) : Con Tryz.prog 28 #[.pointer (some ⟨b0_0, 0, none⟩)] [.blk b0_0 [.int .i64 a0.f_state, .int .i64 a0.f_why, .int .i64 a0.f_turns] 95] (lock_Lock_May_m a0) (fun (o : Int) (x : Unit) => .int .i64 o) (fun (o : Int) (x : Unit) => [.blk b0_0 [.int .i64 a0.f_state, .int .i64 a0.f_why, .int .i64 a0.f_turns] 95]) := by
  unfold lock_Lock_May_m
  refine con (args := [.pointer (some ⟨b0_0, 0, none⟩)]) Tryz.func28 rfl 8 rfl (.c .n) rfl fun c hD hrn => ?_
  refine cSeq (cRegion (lR (dAssign (.c rfl)) (lNil (xCode (cSeq (cSeq (cRegion (lM .z1 ?_))))))))
  refine lR (dNil (.t .z)) (lR (dFld fld_95_0 (by decide) (.t .z) rfl) (lR (dLoad .z agg_3 (.t .z) rfl) (lR (dNe (.t .z) (.c rfl)) (lKeep (.k (.d (.d (.d (.d (.k .n)))))) (lNil (xCode (cCond (.t .z) (fun h1 => ?_) (fun h1 => ?_))))))))
  ·exact cSeq (cRegion (lRdK (dAssign (.c rfl)) (.k (.d (Keep.refl _))) rfl rfl (lKeep (.k .n) (lNil (xCode (cRet (rLeave hD (lvRet (rs := [.tmp 2]) rfl (.t .z .n) () rfl (.c .z .nil)))))))))
  ·refine cSkip (xCode (cSeq (cRegion (lRdK (dAssign (.c rfl)) (.k (.d (Keep.refl _))) rfl rfl (lKeep (.k .n) (lNil (xCode (cRet ?_))))))))
   exact rLeave hD (lvRet (rs := [.tmp 2]) rfl (.t .z .n) () rfl (.c .z .nil))

-- (*greenscreen/lock.Lock).Reset
def lock_Lock_Reset_m (a0 : lock_Lock) : Option (lock_Lock × Bool) := (if a0.f_state ≠ 3 then some (a0, false) else (lock_Lock_Open_m a0).bind fun o2 => some (o2, true))
theorem lock_Lock_Reset_c (a0 : lock_Lock) (b0_0 : Nat) : Con Tryz.prog 48 #[.pointer (some ⟨b0_0, 0, none⟩)] [.blk b0_0 [.int .i64 a0.f_state, .int .i64 a0.f_why, .int .i64 a0.f_turns] 95] (lock_Lock_Reset_m a0) (fun (o : lock_Lock × Bool) (x : Unit) => .bool o.2) (fun (o : lock_Lock × Bool) (x : Unit) => [.blk b0_0 [.int .i64 o.1.f_state, .int .i64 o.1.f_why, .int .i64 o.1.f_turns] 95]) := by
  unfold lock_Lock_Reset_m
  refine con (args := [.pointer (some ⟨b0_0, 0, none⟩)]) Tryz.func48 rfl 10 rfl (.c .n) rfl fun c hD hrn => ?_
  refine cSeq (cRegion (lR (dAssign (.c rfl)) (lNil (xCode (cSeq (cSeq (cRegion (lM .z1 ?_))))))))
  refine lR (dNil (.t .z)) (lR (dFld fld_95_0 (by decide) (.t .z) rfl) (lR (dLoad .z agg_3 (.t .z) rfl) (lR (dNe (.t .z) (.c rfl)) (lKeep (.k (.d (.d (.d (.d (.k (.k .n))))))) (lNil (xCode (cCond (.t .z) (fun h1 => ?_) (fun h1 => ?_))))))))
  ·exact cSeq (cRegion (lRdK (dAssign (.c rfl)) (.k (.d (Keep.refl _))) rfl rfl (lKeep (.k (.d (.k .n))) (lNil (xCode (cRet (rLeave hD (lvRet (rs := [.tmp 2]) rfl (.t .z .n) () rfl (.c .z .nil)))))))))
  ·refine cSkip (xCode (cSeq (cRegion (lM .z2 (lCallN fok_21 (.c (.t .z) .n) (lock_Lock_Open_c a0 b0_0) (.c .z .n) rfl fun o2 x3 h4 => ?_)))))
   refine lKeep (.d (.d (.k .n))) (lNil (xCode (cSeq (cRegion (lRdK (dAssign (.c rfl)) (.d (Keep.refl _)) rfl rfl (lNil (xCode (cRet ?_))))))))
   exact rLeave hD (lvRet (rs := [.tmp 2]) rfl (.t .z .n) () rfl (.c .z .nil))

-- greenscreen/keyboard.right
def keyboard_right_m (a0 : keyboard_Key) : Option (Bool) := (if a0.f_Kind ≥ 1 then (if a0.f_Kind < 17 then some true else (if a0.f_Kind = 17 then (keyboard_Attention_m a0.f_Byte).bind fun o5 => some o5 else some false)) else (if a0.f_Kind = 17 then (keyboard_Attention_m a0.f_Byte).bind fun o9 => some o9 else some false))
theorem keyboard_right_c (a0 : keyboard_Key) : Con Tryz.prog 49 #[.agg #[.int .i64 a0.f_Kind, vB a0.f_Byte]] [] (keyboard_right_m a0) (fun (o : Bool) (x : Unit) => .bool o) (fun (o : Bool) (x : Unit) => []) := by
  unfold keyboard_right_m
  refine con (args := [.agg #[.int .i64 a0.f_Kind, vB a0.f_Byte]]) Tryz.func49 rfl 21 rfl (.c .n) rfl fun c hD hrn => ?_
  refine cSeq (cRegion (lCh (cBox (cs := [.int .i64 a0.f_Kind, vB a0.f_Byte]) (.t .z) rfl) rfl rfl fun b1 => ?_))
  refine lR (dAssign (.c rfl)) (lKeep (.k (.k .n)) (lNil (xCode (cSeq (cRegion (lR (dFld fld_23_0 (by decide) (.t .z1) rfl) (lR (dLoad .z agg_3 (.t .z) rfl) (lR (dGe (.t .z) (.c rfl)) ?_))))))))
  refine lM .z (lCase (fun h2 => ?_) (fun h2 => ?_))
  ·refine lG .z (decide_eq_true h2) (dFld fld_23_0 (by decide) (.t .z5) rfl) (lG .z1 (decide_eq_true h2) (dLoad .z agg_3 (.t .z) rfl) (lG .z2 (decide_eq_true h2) (dLt (.t .z) (.c rfl)) (lR (dPickT (.t .z3) (decide_eq_true h2) (.t .z)) (lM .z (lCase (fun h3 => ?_) (fun h3 => ?_))))))
   ·refine lPass rfl .z (nbF (decide_eq_true h3)) rfl (lPass rfl .z (nbF (decide_eq_true h3)) rfl (lPass rfl .z (nbF (decide_eq_true h3)) rfl (lPassU rfl .z (nbF (decide_eq_true h3)) rfl rfl (lPass rfl .z nbU rfl (lPass rfl .z nbU rfl (lPass rfl .z nbU rfl (lPass rfl .z1 (nbF (decide_eq_true h3)) rfl (lR (dPickT (.t .z1) (decide_eq_true h3) (.c rfl)) ?_))))))))
    exact lAK .z (.k (.k (.k (.k (.k (.k (.k (.k (.k (.k (.k (.d (Keep.refl _))))))))))))) (lKeep (.k .n) (lNil (xCode (cRet (rLeave hD (lvRet (rs := [.tmp 2]) rfl (.t .z .n) () rfl .nil))))))
   ·refine lG .z (decide_eq_false h3) (dFld fld_23_0 (by decide) (.t .z10) rfl) (lG .z1 (decide_eq_false h3) (dLoad .z agg_3 (.t .z) rfl) (lG .z2 (decide_eq_false h3) (dEq (.t .z) (.c rfl)) (lG .z3 (decide_eq_false h3) (dMove (.t .z)) (lCase (fun h4 => ?_) (fun h4 => ?_)))))
    ·refine lG .z (decide_eq_true h4) (dFld fld_23_1 (by decide) (.t .z14) rfl) (lG .z1 (decide_eq_true h4) (dLoad .z agg_5 (.t .z) rfl) (lCallG rfl .z2 (decide_eq_true h4) fok_10 (.c (.t .z) .n) (keyboard_Attention_c _) .n rfl rfl fun o5 x6 h7 => ?_))
     exact lG .z7 (decide_eq_false h3) (dPickT (.t .z3) (decide_eq_true h4) (.t .z)) (lR (dPickF (.t .z8) (decide_eq_false h3) (.t .z)) (lAK .z (.k (.k (.k (.k (.k (.k (.k (.k (.k (.k (.k (.k (.k (.k (.k (.k (.k (.k (.d (Keep.refl _)))))))))))))))))))) (lKeep (.k .n) (lNil (xCode (cRet (rLeave hD (lvRet (rs := [.tmp 2]) rfl (.t .z .n) () rfl .nil))))))))
    ·refine lPass rfl .z (nbT (decide_eq_false h4)) rfl (lPass rfl .z (nbT (decide_eq_false h4)) rfl (lPass rfl .z (nbT (decide_eq_false h4)) rfl (lG .z4 (decide_eq_false h3) (dPickF (.t .z) (decide_eq_false h4) (.c rfl)) (lR (dPickF (.t .z5) (decide_eq_false h3) (.t .z)) (lAK .z (.k (.k (.k (.k (.k (.k (.k (.k (.k (.k (.k (.k (.k (.k (.k (.d (Keep.refl _))))))))))))))))) (lKeep (.k .n) (lNil (xCode ?_))))))))
     exact cRet (rLeave hD (lvRet (rs := [.tmp 2]) rfl (.t .z .n) () rfl .nil))
  ·refine lPass rfl .z (nbT (decide_eq_false h2)) rfl (lPass rfl .z (nbT (decide_eq_false h2)) rfl (lPass rfl .z (nbT (decide_eq_false h2)) rfl (lR (dPickF (.t .z) (decide_eq_false h2) (.c rfl)) (lM .z (lG .z rfl (dFld fld_23_0 (by decide) (.t .z7) rfl) (lG .z1 rfl (dLoad .z agg_3 (.t .z) rfl) (lG .z2 rfl (dEq (.t .z) (.c rfl)) (lG .z3 rfl (dMove (.t .z)) ?_))))))))
   refine lCase (fun h8 => ?_) (fun h8 => ?_)
   ·refine lG .z (decide_eq_true h8) (dFld fld_23_1 (by decide) (.t .z11) rfl) (lG .z1 (decide_eq_true h8) (dLoad .z agg_5 (.t .z) rfl) (lCallG rfl .z2 (decide_eq_true h8) fok_10 (.c (.t .z) .n) (keyboard_Attention_c _) .n rfl rfl fun o9 x10 h11 => ?_))
    exact lG .z7 rfl (dPickT (.t .z3) (decide_eq_true h8) (.t .z)) (lR (dPickF (.t .z8) rfl (.t .z)) (lAK .z (.k (.k (.k (.k (.k (.k (.k (.k (.k (.k (.k (.k (.k (.k (.k (.d (Keep.refl _))))))))))))))))) (lKeep (.k .n) (lNil (xCode (cRet (rLeave hD (lvRet (rs := [.tmp 2]) rfl (.t .z .n) () rfl .nil))))))))
   ·refine lPass rfl .z (nbT (decide_eq_false h8)) rfl (lPass rfl .z (nbT (decide_eq_false h8)) rfl (lPass rfl .z (nbT (decide_eq_false h8)) rfl (lG .z4 rfl (dPickF (.t .z) (decide_eq_false h8) (.c rfl)) (lR (dPickF (.t .z5) rfl (.t .z)) (lAK .z (.k (.k (.k (.k (.k (.k (.k (.k (.k (.k (.k (.k (.d (Keep.refl _)))))))))))))) (lKeep (.k .n) (lNil (xCode ?_))))))))
    exact cRet (rLeave hD (lvRet (rs := [.tmp 2]) rfl (.t .z .n) () rfl .nil))

-- greenscreen/addr.Cells
def addr_Cells_m (a0 : api_Size) : Option (Int) := ((if a0.f_Rows < 1 then some true else (if a0.f_Rows > 43 then some true else (if a0.f_Cols < 1 then some true else (if a0.f_Cols > 132 then some true else some (decide ((w64 (a0.f_Rows * a0.f_Cols)) > 4096))))))).bind fun (s6 : Bool) => (if s6 = true then some 0 else some (w64 (a0.f_Rows * a0.f_Cols)))
theorem addr_Cells_c (a0 : api_Size) : Con Tryz.prog 73 #[.agg #[.int .i64 a0.f_Rows, .int .i64 a0.f_Cols]] [] (addr_Cells_m a0) (fun (o : Int) (x : Unit) => .int .i64 o) (fun (o : Int) (x : Unit) => []) := by
  unfold addr_Cells_m
  refine con (args := [.agg #[.int .i64 a0.f_Rows, .int .i64 a0.f_Cols]]) Tryz.func73 rfl 32 rfl (.c .n) rfl fun c hD hrn => ?_
  refine cSeq (cRegion (lCh (cBox (cs := [.int .i64 a0.f_Rows, .int .i64 a0.f_Cols]) (.t .z) rfl) rfl rfl fun b1 => ?_))
  refine lR (dAssign (.c rfl)) (lKeep (.k (.k .n)) (lNil (xCode (cSeq (cRegion (lR (dFld fld_33_0 (by decide) (.t .z1) rfl) (lR (dLoad .z agg_3 (.t .z) rfl) (lR (dFld fld_33_1 (by decide) (.t .z3) rfl) ?_))))))))
  refine lR (dLoad .z agg_3 (.t .z) rfl) (lR (dMulI (.t .z2) (.t .z)) (lA .z (lKeep (.k (.d (.d (.d (.d (.d (.k (.k .n)))))))) (lNil (xCode (cSeq (cSeq (cJoin (S := Bool) (X := Unit) (fun (s : Bool) (x : Unit) => [(30, .bool s), (3, .int .i64 (w64 (a0.f_Rows * a0.f_Cols))), (2, .int .i64 0)]) (fun (s : Bool) (x : Unit) => [.blk b1 [.int .i64 a0.f_Rows, .int .i64 a0.f_Cols] 33]) ?_ (fun s6 x7 => ?_)))))))))
  ·refine cRegion (lR (dFld fld_33_0 (by decide) (.t .z2) rfl) (lR (dLoad .z agg_3 (.t .z) rfl) (lR (dLt (.t .z) (.c rfl)) (lM .z (lCase (fun h2 => ?_) (fun h2 => ?_))))))
   ·refine lPass rfl .z (nbF (decide_eq_true h2)) rfl (lPass rfl .z (nbF (decide_eq_true h2)) rfl (lPass rfl .z (nbF (decide_eq_true h2)) rfl (lR (dPickT (.t .z) (decide_eq_true h2) (.c rfl)) (lM .z (lPass rfl .z (nbF rfl) rfl (lPass rfl .z (nbF rfl) rfl (lPass rfl .z (nbF rfl) rfl (lR (dPickT (.t .z) rfl (.c rfl)) ?_))))))))
    refine lM .z (lPass rfl .z (nbF rfl) rfl (lPass rfl .z (nbF rfl) rfl (lPass rfl .z (nbF rfl) rfl (lR (dPickT (.t .z) rfl (.c rfl)) (lM .z (lPass rfl .z (nbF rfl) rfl (lPass rfl .z (nbF rfl) rfl (lR (dPickT (.t .z) rfl (.c rfl)) ?_))))))))
    exact lKeep (.k (.d (.d (.d (.d (.d (.d (.d (.d (.d (.d (.k (.k .n))))))))))))) (lNil (xJoin true () (.c .z (.c .z1 (.c .z2 .n))) (.c .z .nil)))
   ·refine lG .z (decide_eq_false h2) (dFld fld_33_0 (by decide) (.t .z6) rfl) (lG .z1 (decide_eq_false h2) (dLoad .z agg_3 (.t .z) rfl) (lG .z2 (decide_eq_false h2) (dGt (.t .z) (.c rfl)) (lR (dPickF (.t .z3) (decide_eq_false h2) (.t .z)) (lM .z (lCase (fun h3 => ?_) (fun h3 => ?_))))))
    ·refine lPass rfl .z (nbF (decide_eq_true h3)) rfl (lPass rfl .z (nbF (decide_eq_true h3)) rfl (lPass rfl .z (nbF (decide_eq_true h3)) rfl (lR (dPickT (.t .z) (decide_eq_true h3) (.c rfl)) (lM .z (lPass rfl .z (nbF rfl) rfl (lPass rfl .z (nbF rfl) rfl (lPass rfl .z (nbF rfl) rfl (lR (dPickT (.t .z) rfl (.c rfl)) ?_))))))))
     exact lM .z (lPass rfl .z (nbF rfl) rfl (lPass rfl .z (nbF rfl) rfl (lR (dPickT (.t .z) rfl (.c rfl)) (lKeep (.k (.d (.d (.d (.d (.d (.d (.d (.d (.d (.d (.d (.d (.d (.k (.k .n)))))))))))))))) (lNil (xJoin true () (.c .z (.c .z1 (.c .z2 .n))) (.c .z .nil)))))))
    ·refine lG .z (decide_eq_false h3) (dFld fld_33_1 (by decide) (.t .z11) rfl) (lG .z1 (decide_eq_false h3) (dLoad .z agg_3 (.t .z) rfl) (lG .z2 (decide_eq_false h3) (dLt (.t .z) (.c rfl)) (lR (dPickF (.t .z3) (decide_eq_false h3) (.t .z)) (lM .z (lCase (fun h4 => ?_) (fun h4 => ?_))))))
     ·refine lPass rfl .z (nbF (decide_eq_true h4)) rfl (lPass rfl .z (nbF (decide_eq_true h4)) rfl (lPass rfl .z (nbF (decide_eq_true h4)) rfl (lR (dPickT (.t .z) (decide_eq_true h4) (.c rfl)) (lM .z (lPass rfl .z (nbF rfl) rfl (lPass rfl .z (nbF rfl) rfl (lR (dPickT (.t .z) rfl (.c rfl)) (lKeep (.k (.d (.d (.d (.d (.d (.d (.d (.d (.d (.d (.d (.d (.d (.d (.d (.d (.k (.k .n))))))))))))))))))) ?_))))))))
      exact lNil (xJoin true () (.c .z (.c .z1 (.c .z2 .n))) (.c .z .nil))
     ·refine lG .z (decide_eq_false h4) (dFld fld_33_1 (by decide) (.t .z16) rfl) (lG .z1 (decide_eq_false h4) (dLoad .z agg_3 (.t .z) rfl) (lG .z2 (decide_eq_false h4) (dGt (.t .z) (.c rfl)) (lR (dPickF (.t .z3) (decide_eq_false h4) (.t .z)) (lM .z (lCase (fun h5 => ?_) (fun h5 => ?_))))))
      ·exact lPass rfl .z (nbF (decide_eq_true h5)) rfl (lPass rfl .z (nbF (decide_eq_true h5)) rfl (lR (dPickT (.t .z) (decide_eq_true h5) (.c rfl)) (lKeep (.k (.d (.d (.d (.d (.d (.d (.d (.d (.d (.d (.d (.d (.d (.d (.d (.d (.d (.d (.d (.k (.k .n)))))))))))))))))))))) (lNil (xJoin true () (.c .z (.c .z1 (.c .z2 .n))) (.c .z .nil))))))
      ·exact lG .z (decide_eq_false h5) (dMove (.t .z19)) (lG .z1 (decide_eq_false h5) (dGt (.t .z) (.c rfl)) (lR (dPickF (.t .z2) (decide_eq_false h5) (.t .z)) (lKeep (.k (.d (.d (.d (.d (.d (.d (.d (.d (.d (.d (.d (.d (.d (.d (.d (.d (.d (.d (.d (.d (.d (.k (.k .n)))))))))))))))))))))))) (lNil (xJoin (decide ((w64 (a0.f_Rows * a0.f_Cols)) > 4096)) () (.c .z (.c .z1 (.c .z2 .n))) (.c .z .nil))))))
  ·refine xCode (cCondB (.t .z) (fun h8 => ?_) (fun h8 => ?_))
   ·exact cSeq (cRegion (lRdK (dAssign (.c rfl)) (.k (.k (.d (Keep.refl _)))) rfl rfl (lKeep (.k (.d (.k .n))) (lNil (xCode (cRet (rLeave hD (lvRet (rs := [.tmp 2]) rfl (.t .z .n) () rfl .nil))))))))
   ·refine cSkip (xCode (cSeq (cRegion (lM .z1 (lAK .z (.k (.k (.k (.d (Keep.refl _))))) (lKeep (.k .n) (lNil (xCode ?_))))))))
    exact cRet (rLeave hD (lvRet (rs := [.tmp 2]) rfl (.t .z .n) () rfl .nil))

-- greenscreen/plane.New
def plane_New_m (a0 : api_Size) : Option (Sum (plane_Plane) (Unit)) := (addr_Cells_m a0).bind fun o2 => (if o2 = 0 then some (Sum.inr ()) else (SX.mk o2 (⟨0, false, false, 0, 0⟩ : api_Cell)).bind fun zs6 => some (Sum.inl (⟨a0, zs6, 0⟩ : plane_Plane)))
theorem plane_New_c (a0 : api_Size) : Con Tryz.prog 158 #[.agg #[.int .i64 a0.f_Rows, .int .i64 a0.f_Cols]] [] (plane_New_m a0) (resS (fun (o : plane_Plane) (x : (Nat × Value) × (Unit)) => .tuple #[.pointer (some ⟨x.1.1, 0, none⟩), .int .i64 0]) (fun (e : Unit) (x : (Nat × Value) × (Unit)) => .tuple #[.pointer none, .int .i64 1])) (loE (fun (o : plane_Plane) (x : (Nat × Value) × (Unit)) => [.blk x.1.1 [.int .i64 o.f_size.f_Rows, .int .i64 o.f_size.f_Cols, x.1.2, .int .i64 o.f_cursor] 126, .own x.1.2 80 k_api_Cell o.f_cells]) (fun (e : Unit) (x : (Nat × Value) × (Unit)) => [])) := by
  unfold plane_New_m
  refine con (args := [.agg #[.int .i64 a0.f_Rows, .int .i64 a0.f_Cols]]) Tryz.func158 rfl 14 rfl (.c .n) rfl fun c hD hrn => ?_
  refine cSeq (cRegion (lCh (cBox (cs := [.int .i64 a0.f_Rows, .int .i64 a0.f_Cols]) (.t .z) rfl) rfl rfl fun b1 => ?_))
  refine lR (dAssign (.c rfl)) (lR (dAssign (.c rfl)) (lKeep (.k (.k (.k .n))) (lNil (xCode (cSeq (cRegion (lR (dLoadA (us := [.int .i64 a0.f_Rows, .int .i64 a0.f_Cols]) .z agg_33 siz_33 rfl (.t .z2) rfl) (lCall fok_73 (.c (.t .z) .n) (addr_Cells_c a0) .n rfl rfl fun o2 x3 h4 => ?_))))))))
  refine lA .z (lKeep (.k (.d (.d (.k (.k (.k .n)))))) (lNil (xCode (cSeq (cSeq (cRegion (lM .z (lR (dEq (.t .z) (.c rfl)) ?_))))))))
  refine lKeep (.k (.d (.k (.k (.k (.k .n)))))) (lNil (xCode (cCond (.t .z) (fun h5 => ?_) (fun h5 => ?_))))
  ·refine cSeq (cRegion (lRdK (dAssign (.c rfl)) (.k (.k (.k (.d (Keep.refl _))))) rfl rfl (lRdK (dAssign (.c rfl)) (.k (.k (.k (.d (Keep.refl _))))) rfl rfl (lKeep (.k (.k (.d (.k (.k .n))))) (lNil (xCode (cRet (rLeave hD ?_))))))))
   exact lvRet (rs := [.tmp 2, .tmp 3]) rfl (.t .z1 (.t .z .n)) ((0, undef), ()) rfl .nil
  ·refine cSkip (xCode (cSeq (cRegionM [2, 4] [(0, .quiet), (1, .early), (2, .only), (3, .quiet), (4, .only), (5, .quiet), (6, .quiet)] mixed (by kernel_rfl) (.c .z .nil) (.c .n) (mRd rfl rfl (fun _ _ _ => dLoadA (us := [.int .i64 a0.f_Rows, .int .i64 a0.f_Cols]) .z agg_33 siz_33 rfl (.t .z4) rfl) rfl rfl ?_))))
   refine mRd rfl rfl (fun _ _ _ => dMove (.t .z2)) rfl rfl ?_
   refine mBind fun zs6 h7 => ?_
   refine mCh rfl rfl (cMake (k := k_api_Cell) (zx := (⟨0, false, false, 0, 0⟩ : api_Cell)) und_37 inf_80 rfl (by decide) zer_80 (fun _ => rfl) (.t .z) (.t .z) h7) (fun b8 => (.c .z1 (.c .z .nil))) (fun _ => (.c .n)) rfl rfl fun b8 => ?_
   refine mRd rfl rfl (fun _ _ _ => dBuild (cs := [.int .i64 a0.f_Rows, .int .i64 a0.f_Cols, .slice (some ⟨b8, 0, none⟩) (Int.toNat o2) (Int.toNat o2), .int .i64 0]) zer_126 rfl plc_126 (.c (.t .z2) (.c (.t .z) .n)) rfl) rfl rfl ?_
   refine mCh rfl rfl (cBox (cs := [.int .i64 a0.f_Rows, .int .i64 a0.f_Cols, .slice (some ⟨b8, 0, none⟩) (Int.toNat o2) (Int.toNat o2), .int .i64 0]) (.t .z) rfl) (fun b9 => (.c .z1 (.c .z (.c .z .nil)))) (fun _ => (.c .n)) rfl rfl fun b9 => ?_
   refine mRdK rfl rfl (fun _ _ _ => dAssign (.t .z)) (.k (.k (.k (.k (.k (.k (.k (.k (.d (Keep.refl _)))))))))) rfl rfl ?_
   refine mRdK rfl rfl (fun _ _ _ => dAssign (.c rfl)) (.k (.k (.k (.k (.k (.k (.k (.k (.d (Keep.refl _)))))))))) rfl rfl ?_
   exact mKeep (.k (.k .n)) (mNil (xCode (cRet (rLeave hD (lvRet (rs := [.tmp 2, .tmp 3]) rfl (.t .z1 (.t .z .n)) ((b9, .slice (some ⟨b8, 0, none⟩) (Int.toNat o2) (Int.toNat o2)), ()) rfl (.c .z1 (.c .z1 .nil)))))))

-- (*greenscreen/screen.Screen).renew
def screen_Screen_renew_m (a0 : screen_Screen) (a1 : Int) : Option (screen_Screen) := (if a1 = 0 then (plane_New_m a0.f_sizes_0).bind (onE (fun (o2 : plane_Plane) => some (⟨a0.f_sizes_0, a0.f_sizes_1, a1, o2⟩ : screen_Screen)) (fun (o5 : Unit) => none)) else (if a1 = 1 then (plane_New_m a0.f_sizes_1).bind (onE (fun (o9 : plane_Plane) => some (⟨a0.f_sizes_0, a0.f_sizes_1, a1, o9⟩ : screen_Screen)) (fun (o12 : Unit) => none)) else none))
theorem screen_Screen_renew_c (a0 : screen_Screen) (a1 : Int) (b0_0 : Nat) (b0_1 : Nat) (v0_2 : Value) : Con Tryz.prog 118 #[.pointer (some ⟨b0_0, 0, none⟩), .int .i64 a1] [.blk b0_0 [.int .i64 a0.f_sizes_0.f_Rows, .int .i64 a0.f_sizes_0.f_Cols, .int .i64 a0.f_sizes_1.f_Rows, .int .i64 a0.f_sizes_1.f_Cols, .int .i64 a0.f_which, .pointer (some ⟨b0_1, 0, none⟩)] 124, .blk b0_1 [.int .i64 a0.f_p.f_size.f_Rows, .int .i64 a0.f_p.f_size.f_Cols, v0_2, .int .i64 a0.f_p.f_cursor] 126, .own v0_2 80 k_api_Cell a0.f_p.f_cells] (screen_Screen_renew_m a0 a1) (fun (o : screen_Screen) (x : Nat × Value) => .tuple #[]) (fun (o : screen_Screen) (x : Nat × Value) => [.blk b0_0 [.int .i64 o.f_sizes_0.f_Rows, .int .i64 o.f_sizes_0.f_Cols, .int .i64 o.f_sizes_1.f_Rows, .int .i64 o.f_sizes_1.f_Cols, .int .i64 o.f_which, .pointer (some ⟨x.1, 0, none⟩)] 124, .blk x.1 [.int .i64 o.f_p.f_size.f_Rows, .int .i64 o.f_p.f_size.f_Cols, x.2, .int .i64 o.f_p.f_cursor] 126, .own x.2 80 k_api_Cell o.f_p.f_cells]) := by
  unfold screen_Screen_renew_m
  refine con (args := [.pointer (some ⟨b0_0, 0, none⟩), .int .i64 a1]) Tryz.func118 rfl 21 rfl (.c (.c .n)) rfl fun c hD hrn => ?_
  refine cSeq (cRegion (lM .z (lM .z2 (lR (dNil (.t .z1)) (lR (dFld fld_124_1 (by decide) (.t .z) rfl) (lChU (uStore .z siz_3 rfl .z4 (.t .z) (.t .z2)) (lKeep (.d (.d (.d (.d (.k (.k .n)))))) (lNil ?_))))))))
  refine xCode (cRegion (lM .z (lM .z1 (lM .z3 (lR (dNil (.t .z1)) (lR (dFld fld_124_0 (by decide) (.t .z) rfl) (lCase (fun h1 => ?_) (fun h1 => ?_))))))))
  ·refine lR (dIxArrV h1 und_122 siz_33 (.t .z) (.t .z2) (by decide) (by decide)) (lR (dLoadA (us := [.int .i64 a0.f_sizes_0.f_Rows, .int .i64 a0.f_sizes_0.f_Cols]) .z agg_33 siz_33 rfl (.t .z) rfl) (lCallS fok_158 (.c (.t .z) .n) (plane_New_c _) .n rfl rfl (fun o2 x3 h4 => ?_) (fun o5 x6 h7 => ?_)))
   ·refine lM .z (lR (dExtract (.t .z) rfl) (lRdN (dExtract (.t .z1) rfl) rfl (lR (dNil (.t .z9)) (lR (dFld fld_124_2 (by decide) (.t .z) rfl) (lChU (uStore .z2 siz_70 rfl .z5 (.t .z) (.t .z2)) (lKeep .n (lNil (xLeave hD ?_))))))))
    exact lvRet (rs := []) rfl .n (x3.1.1, x3.1.2) rfl (.c .z2 (.c .z (.c .z .nil)))
   ·exact lM .z (lR (dExtract (.t .z) rfl) (lRdN (dExtract (.t .z1) rfl) rfl (lR (dNil (.t .z9)) (lR (dFld fld_124_2 (by decide) (.t .z) rfl) (lChU (uStore .z siz_70 rfl .z5 (.t .z) (.t .z2)) (lKeep .n (lNil (xStuck))))))))
  ·refine lCase (fun h8 => ?_) (fun h8 => ?_)
   ·refine lR (dIxArrV h8 und_122 siz_33 (.t .z) (.t .z2) (by decide) (by decide)) (lR (dLoadA (us := [.int .i64 a0.f_sizes_1.f_Rows, .int .i64 a0.f_sizes_1.f_Cols]) .z agg_33 siz_33 rfl (.t .z) rfl) (lCallS fok_158 (.c (.t .z) .n) (plane_New_c _) .n rfl rfl (fun o9 x10 h11 => ?_) (fun o12 x13 h14 => ?_)))
    ·refine lM .z (lR (dExtract (.t .z) rfl) (lRdN (dExtract (.t .z1) rfl) rfl (lR (dNil (.t .z9)) (lR (dFld fld_124_2 (by decide) (.t .z) rfl) (lChU (uStore .z2 siz_70 rfl .z5 (.t .z) (.t .z2)) (lKeep .n (lNil (xLeave hD ?_))))))))
     exact lvRet (rs := []) rfl .n (x10.1.1, x10.1.2) rfl (.c .z2 (.c .z (.c .z .nil)))
    ·exact lM .z (lR (dExtract (.t .z) rfl) (lRdN (dExtract (.t .z1) rfl) rfl (lR (dNil (.t .z9)) (lR (dFld fld_124_2 (by decide) (.t .z) rfl) (lChU (uStore .z siz_70 rfl .z5 (.t .z) (.t .z2)) (lKeep .n (lNil (xStuck))))))))
   ·exact lStuck

-- (*greenscreen/screen.Screen).Clear
def screen_Screen_Clear_m (a0 : screen_Screen) : Option (screen_Screen) := (screen_Screen_renew_m a0 0).bind fun o1 => some o1
theorem screen_Screen_Clear_c (a0 : screen_Screen) (b0_0 : Nat) (b0_1 : Nat) (v0_2 : Value) : Con Tryz.prog 74 #[.pointer (some ⟨b0_0, 0, none⟩)] [.blk b0_0 [.int .i64 a0.f_sizes_0.f_Rows, .int .i64 a0.f_sizes_0.f_Cols, .int .i64 a0.f_sizes_1.f_Rows, .int .i64 a0.f_sizes_1.f_Cols, .int .i64 a0.f_which, .pointer (some ⟨b0_1, 0, none⟩)] 124, .blk b0_1 [.int .i64 a0.f_p.f_size.f_Rows, .int .i64 a0.f_p.f_size.f_Cols, v0_2, .int .i64 a0.f_p.f_cursor] 126, .own v0_2 80 k_api_Cell a0.f_p.f_cells] (screen_Screen_Clear_m a0) (fun (o : screen_Screen) (x : Nat × Value) => .tuple #[]) (fun (o : screen_Screen) (x : Nat × Value) => [.blk b0_0 [.int .i64 o.f_sizes_0.f_Rows, .int .i64 o.f_sizes_0.f_Cols, .int .i64 o.f_sizes_1.f_Rows, .int .i64 o.f_sizes_1.f_Cols, .int .i64 o.f_which, .pointer (some ⟨x.1, 0, none⟩)] 124, .blk x.1 [.int .i64 o.f_p.f_size.f_Rows, .int .i64 o.f_p.f_size.f_Cols, x.2, .int .i64 o.f_p.f_cursor] 126, .own x.2 80 k_api_Cell o.f_p.f_cells]) := by
  unfold screen_Screen_Clear_m
  refine con (args := [.pointer (some ⟨b0_0, 0, none⟩)]) Tryz.func74 rfl 4 rfl (.c .n) rfl fun c hD hrn => ?_
  refine cRegion (lM .z (lCallN fok_118 (.c (.t .z) (.c (.c rfl) .n)) (screen_Screen_renew_c a0 0 b0_0 b0_1 v0_2) (.c .z (.c .z (.c .z .n))) rfl fun o1 x2 h3 => ?_))
  exact lKeep .n (lNil (xLeave hD (lvRet (rs := []) rfl .n (x2.1, x2.2) rfl (.c .z (.c .z (.c .z .nil))))))

-- (*greenscreen/lock.Lock).Send
def lock_Lock_Send_m (a0 : lock_Lock) : Option (lock_Lock × Int) := (lock_Lock_May_m a0).bind fun o1 => (if o1 ≠ 0 then some (a0, o1) else (lock_Lock_turn_m a0 2 0).bind fun o5 => some (o5, 0))
theorem lock_Lock_Send_c (a0 : lock_Lock) (b0_0 : Nat) : Con Tryz.prog 94 #[.pointer (some ⟨b0_0, 0, none⟩)] [.blk b0_0 [.int .i64 a0.f_state, .int .i64 a0.f_why, .int .i64 a0.f_turns] 95] (lock_Lock_Send_m a0) (fun (o : lock_Lock × Int) (x : Unit) => .int .i64 o.2) (fun (o : lock_Lock × Int) (x : Unit) => [.blk b0_0 [.int .i64 o.1.f_state, .int .i64 o.1.f_why, .int .i64 o.1.f_turns] 95]) := by
  unfold lock_Lock_Send_m
  refine con (args := [.pointer (some ⟨b0_0, 0, none⟩)]) Tryz.func94 rfl 11 rfl (.c .n) rfl fun c hD hrn => ?_
  refine cSeq (cRegion (lR (dAssign (.c rfl)) (lNil (xCode (cSeq (cSeq (cRegion (lM .z1 ?_))))))))
  refine lCall fok_28 (.c (.t .z) .n) (lock_Lock_May_c a0 b0_0) (.c .z .n) rfl rfl fun o1 x2 h3 => ?_
  refine lA .z (lKeep (.k (.d (.d (.k (.k .n))))) (lNil (xCode (cSeq (cRegion (lM .z (lR (dNe (.t .z) (.c rfl)) (lKeep (.k (.d (.k (.k (.k .n))))) ?_))))))))
  refine lNil (xCode (cCond (.t .z) (fun h4 => ?_) (fun h4 => ?_)))
  ·refine cSeq (cRegion (lM .z1 (lAK .z (.k (.k (.k (.d (Keep.refl _))))) (lKeep (.k (.d (.d (.d (.k .n))))) (lNil (xCode (cRet (rLeave hD ?_))))))))
   exact lvRet (rs := [.tmp 2]) rfl (.t .z .n) () rfl (.c .z .nil)
  ·refine cSkip (xCode (cSeq (cRegion (lM .z3 (lCallN fok_47 (.c (.t .z) (.c (.c rfl) (.c (.c rfl) .n))) (lock_Lock_turn_c a0 2 0 b0_0) (.c .z .n) rfl fun o5 x6 h7 => ?_)))))
   refine lKeep (.d (.d (.d (.k .n)))) (lNil (xCode (cSeq (cRegion (lRdK (dAssign (.c rfl)) (.d (Keep.refl _)) rfl rfl (lNil (xCode (cRet ?_))))))))
   exact rLeave hD (lvRet (rs := [.tmp 2]) rfl (.t .z .n) () rfl (.c .z .nil))

-- (*greenscreen/lock.Lock).May
def lock_Lock_May_v0_m (a0 : keyboard_Keyboard) : Option (Int) := (if a0.f_l.f_state ≠ 1 then some 40 else some 0)
theorem lock_Lock_May_v0_c (a0 : keyboard_Keyboard) (b0_0 : Nat) (b0_1 : Nat) (b0_2 : Nat) (v0_3 : Value) : Con Tryz.prog 28 #[.pointer (some ⟨b0_0, 1, none⟩)] [.blk b0_0 [.pointer (some ⟨b0_1, 0, none⟩), .int .i64 a0.f_l.f_state, .int .i64 a0.f_l.f_why, .int .i64 a0.f_l.f_turns, .bool a0.f_insert, vB a0.f_last] 97, .blk b0_1 [.int .i64 a0.f_s.f_sizes_0.f_Rows, .int .i64 a0.f_s.f_sizes_0.f_Cols, .int .i64 a0.f_s.f_sizes_1.f_Rows, .int .i64 a0.f_s.f_sizes_1.f_Cols, .int .i64 a0.f_s.f_which, .pointer (some ⟨b0_2, 0, none⟩)] 124, .blk b0_2 [.int .i64 a0.f_s.f_p.f_size.f_Rows, .int .i64 a0.f_s.f_p.f_size.f_Cols, v0_3, .int .i64 a0.f_s.f_p.f_cursor] 126, .own v0_3 80 k_api_Cell a0.f_s.f_p.f_cells] (lock_Lock_May_v0_m a0) (fun (o : Int) (x : Unit) => .int .i64 o) (fun (o : Int) (x : Unit) => [.blk b0_0 [.pointer (some ⟨b0_1, 0, none⟩), .int .i64 a0.f_l.f_state, .int .i64 a0.f_l.f_why, .int .i64 a0.f_l.f_turns, .bool a0.f_insert, vB a0.f_last] 97, .blk b0_1 [.int .i64 a0.f_s.f_sizes_0.f_Rows, .int .i64 a0.f_s.f_sizes_0.f_Cols, .int .i64 a0.f_s.f_sizes_1.f_Rows, .int .i64 a0.f_s.f_sizes_1.f_Cols, .int .i64 a0.f_s.f_which, .pointer (some ⟨b0_2, 0, none⟩)] 124, .blk b0_2 [.int .i64 a0.f_s.f_p.f_size.f_Rows, .int .i64 a0.f_s.f_p.f_size.f_Cols, v0_3, .int .i64 a0.f_s.f_p.f_cursor] 126, .own v0_3 80 k_api_Cell a0.f_s.f_p.f_cells]) := by
  unfold lock_Lock_May_v0_m
  refine con (args := [.pointer (some ⟨b0_0, 1, none⟩)]) Tryz.func28 rfl 8 rfl (.c .n) rfl fun c hD hrn => ?_
  refine cSeq (cRegion (lR (dAssign (.c rfl)) (lNil (xCode (cSeq (cSeq (cRegion (lM .z1 ?_))))))))
  refine lR (dNil (.t .z)) (lR (dFld fld_95_0 (by decide) (.t .z) rfl) (lR (dLoad .z agg_3 (.t .z) rfl) (lR (dNe (.t .z) (.c rfl)) (lKeep (.k (.d (.d (.d (.d (.k .n)))))) (lNil (xCode (cCond (.t .z) (fun h1 => ?_) (fun h1 => ?_))))))))
  ·exact cSeq (cRegion (lRdK (dAssign (.c rfl)) (.k (.d (Keep.refl _))) rfl rfl (lKeep (.k .n) (lNil (xCode (cRet (rLeave hD (lvRet (rs := [.tmp 2]) rfl (.t .z .n) () rfl (.c .z (.c .z (.c .z (.c .z .nil))))))))))))
  ·refine cSkip (xCode (cSeq (cRegion (lRdK (dAssign (.c rfl)) (.k (.d (Keep.refl _))) rfl rfl (lKeep (.k .n) (lNil (xCode (cRet ?_))))))))
   exact rLeave hD (lvRet (rs := [.tmp 2]) rfl (.t .z .n) () rfl (.c .z (.c .z (.c .z (.c .z .nil)))))

-- (*greenscreen/lock.Lock).Send
def lock_Lock_Send_v0_m (a0 : keyboard_Keyboard) : Option (keyboard_Keyboard × Int) := (lock_Lock_May_v0_m a0).bind fun o1 => (if o1 ≠ 0 then some (a0, o1) else (lock_Lock_turn_v0_m a0 2 0).bind fun o5 => some (o5, 0))
theorem lock_Lock_Send_v0_c (a0 : keyboard_Keyboard) (b0_0 : Nat) (b0_1 : Nat) (b0_2 : Nat) (v0_3 : Value) : Con Tryz.prog 94 #[.pointer (some ⟨b0_0, 1, none⟩)] [.blk b0_0 [.pointer (some ⟨b0_1, 0, none⟩), .int .i64 a0.f_l.f_state, .int .i64 a0.f_l.f_why, .int .i64 a0.f_l.f_turns, .bool a0.f_insert, vB a0.f_last] 97, .blk b0_1 [.int .i64 a0.f_s.f_sizes_0.f_Rows, .int .i64 a0.f_s.f_sizes_0.f_Cols, .int .i64 a0.f_s.f_sizes_1.f_Rows, .int .i64 a0.f_s.f_sizes_1.f_Cols, .int .i64 a0.f_s.f_which, .pointer (some ⟨b0_2, 0, none⟩)] 124, .blk b0_2 [.int .i64 a0.f_s.f_p.f_size.f_Rows, .int .i64 a0.f_s.f_p.f_size.f_Cols, v0_3, .int .i64 a0.f_s.f_p.f_cursor] 126, .own v0_3 80 k_api_Cell a0.f_s.f_p.f_cells] (lock_Lock_Send_v0_m a0) (fun (o : keyboard_Keyboard × Int) (x : Unit) => .int .i64 o.2) (fun (o : keyboard_Keyboard × Int) (x : Unit) => [.blk b0_0 [.pointer (some ⟨b0_1, 0, none⟩), .int .i64 o.1.f_l.f_state, .int .i64 o.1.f_l.f_why, .int .i64 o.1.f_l.f_turns, .bool o.1.f_insert, vB o.1.f_last] 97, .blk b0_1 [.int .i64 o.1.f_s.f_sizes_0.f_Rows, .int .i64 o.1.f_s.f_sizes_0.f_Cols, .int .i64 o.1.f_s.f_sizes_1.f_Rows, .int .i64 o.1.f_s.f_sizes_1.f_Cols, .int .i64 o.1.f_s.f_which, .pointer (some ⟨b0_2, 0, none⟩)] 124, .blk b0_2 [.int .i64 o.1.f_s.f_p.f_size.f_Rows, .int .i64 o.1.f_s.f_p.f_size.f_Cols, v0_3, .int .i64 o.1.f_s.f_p.f_cursor] 126, .own v0_3 80 k_api_Cell o.1.f_s.f_p.f_cells]) := by
  unfold lock_Lock_Send_v0_m
  refine con (args := [.pointer (some ⟨b0_0, 1, none⟩)]) Tryz.func94 rfl 11 rfl (.c .n) rfl fun c hD hrn => ?_
  refine cSeq (cRegion (lR (dAssign (.c rfl)) (lNil (xCode (cSeq (cSeq (cRegion (lM .z1 ?_))))))))
  refine lCall fok_28 (.c (.t .z) .n) (lock_Lock_May_v0_c a0 b0_0 b0_1 b0_2 v0_3) (.c .z (.c .z (.c .z (.c .z .n)))) rfl rfl fun o1 x2 h3 => ?_
  refine lA .z (lKeep (.k (.d (.d (.k (.k .n))))) (lNil (xCode (cSeq (cRegion (lM .z (lR (dNe (.t .z) (.c rfl)) (lKeep (.k (.d (.k (.k (.k .n))))) ?_))))))))
  refine lNil (xCode (cCond (.t .z) (fun h4 => ?_) (fun h4 => ?_)))
  ·refine cSeq (cRegion (lM .z1 (lAK .z (.k (.k (.k (.d (Keep.refl _))))) (lKeep (.k (.d (.d (.d (.k .n))))) (lNil (xCode (cRet (rLeave hD ?_))))))))
   exact lvRet (rs := [.tmp 2]) rfl (.t .z .n) () rfl (.c .z (.c .z (.c .z (.c .z .nil))))
  ·refine cSkip (xCode (cSeq (cRegion (lM .z3 (lCallN fok_47 (.c (.t .z) (.c (.c rfl) (.c (.c rfl) .n))) (lock_Lock_turn_v0_c a0 2 0 b0_0 b0_1 b0_2 v0_3) (.c .z (.c .z (.c .z (.c .z .n)))) rfl fun o5 x6 h7 => ?_)))))
   refine lKeep (.d (.d (.d (.k .n)))) (lNil (xCode (cSeq (cRegion (lRdK (dAssign (.c rfl)) (.d (Keep.refl _)) rfl rfl (lNil (xCode (cRet ?_))))))))
   exact rLeave hD (lvRet (rs := [.tmp 2]) rfl (.t .z .n) () rfl (.c .z (.c .z (.c .z (.c .z .nil)))))

-- (*greenscreen/keyboard.Keyboard).send
def keyboard_Keyboard_send_m (a0 : keyboard_Keyboard) (a1 : UInt8) : Option (keyboard_Keyboard × Bool × Int) := (lock_Lock_Send_v0_m a0).bind fun o1 => (if o1.2 ≠ 0 then some (o1.1, false, o1.2) else (if a1 = (109 : UInt8) then (screen_Screen_Clear_m o1.1.f_s).bind fun o6 => some ((⟨o6, o1.1.f_l, false, a1⟩ : keyboard_Keyboard), true, 0) else some ((⟨o1.1.f_s, o1.1.f_l, false, a1⟩ : keyboard_Keyboard), true, 0)))
theorem keyboard_Keyboard_send_c (a0 : keyboard_Keyboard) (a1 : UInt8) (b0_0 : Nat) (b0_1 : Nat) (b0_2 : Nat) (v0_3 : Value) : Con Tryz.prog 50 #[.pointer (some ⟨b0_0, 0, none⟩), vB a1] [.blk b0_0 [.pointer (some ⟨b0_1, 0, none⟩), .int .i64 a0.f_l.f_state, .int .i64 a0.f_l.f_why, .int .i64 a0.f_l.f_turns, .bool a0.f_insert, vB a0.f_last] 97, .blk b0_1 [.int .i64 a0.f_s.f_sizes_0.f_Rows, .int .i64 a0.f_s.f_sizes_0.f_Cols, .int .i64 a0.f_s.f_sizes_1.f_Rows, .int .i64 a0.f_s.f_sizes_1.f_Cols, .int .i64 a0.f_s.f_which, .pointer (some ⟨b0_2, 0, none⟩)] 124, .blk b0_2 [.int .i64 a0.f_s.f_p.f_size.f_Rows, .int .i64 a0.f_s.f_p.f_size.f_Cols, v0_3, .int .i64 a0.f_s.f_p.f_cursor] 126, .own v0_3 80 k_api_Cell a0.f_s.f_p.f_cells] (keyboard_Keyboard_send_m a0 a1) (fun (o : keyboard_Keyboard × Bool × Int) (x : Nat × Value) => .tuple #[.bool o.2.1, .int .i64 o.2.2]) (fun (o : keyboard_Keyboard × Bool × Int) (x : Nat × Value) => [.blk b0_0 [.pointer (some ⟨b0_1, 0, none⟩), .int .i64 o.1.f_l.f_state, .int .i64 o.1.f_l.f_why, .int .i64 o.1.f_l.f_turns, .bool o.1.f_insert, vB o.1.f_last] 97, .blk b0_1 [.int .i64 o.1.f_s.f_sizes_0.f_Rows, .int .i64 o.1.f_s.f_sizes_0.f_Cols, .int .i64 o.1.f_s.f_sizes_1.f_Rows, .int .i64 o.1.f_s.f_sizes_1.f_Cols, .int .i64 o.1.f_s.f_which, .pointer (some ⟨x.1, 0, none⟩)] 124, .blk x.1 [.int .i64 o.1.f_s.f_p.f_size.f_Rows, .int .i64 o.1.f_s.f_p.f_size.f_Cols, x.2, .int .i64 o.1.f_s.f_p.f_cursor] 126, .own x.2 80 k_api_Cell o.1.f_s.f_p.f_cells]) := by
  unfold keyboard_Keyboard_send_m
  refine con (args := [.pointer (some ⟨b0_0, 0, none⟩), vB a1]) Tryz.func50 rfl 28 rfl (.c (.c .n)) rfl fun c hD hrn => ?_
  refine cSeq (cRegion (lR (dAssign (.c rfl)) (lR (dAssign (.c rfl)) (lNil (xCode (cSeq (cSeq (cRegion ?_))))))))
  refine lM .z2 (lR (dNil (.t .z)) (lR (dFld fld_97_1 (by decide) (.t .z) rfl) (lCall fok_94 (.c (.t .z) .n) (lock_Lock_Send_v0_c a0 b0_0 b0_1 b0_2 v0_3) (.c .z (.c .z (.c .z (.c .z .n)))) rfl rfl fun o1 x2 h3 => ?_)))
  refine lA .z (lKeep (.k (.d (.d (.d (.d (.k (.k (.k (.k .n))))))))) (lNil (xCode (cSeq (cRegion (lM .z (lR (dNe (.t .z) (.c rfl)) (lKeep (.k (.d (.k (.k (.k (.k (.k .n))))))) ?_))))))))
  refine lNil (xCode (cCond (.t .z) (fun h4 => ?_) (fun h4 => ?_)))
  ·refine cSeq (cRegion (lM .z1 (lRdK (dAssign (.c rfl)) (.k (.k (.k (.k (.d (Keep.refl _)))))) rfl rfl (lAK .z1 (.k (.k (.k (.k (.d (Keep.refl _)))))) (lKeep (.k (.k (.d (.d (.d (.k (.k .n))))))) (lNil (xCode (cRet ?_))))))))
   exact rLeave hD (lvRet (rs := [.tmp 4, .tmp 5]) rfl (.t .z1 (.t .z .n)) (b0_2, v0_3) rfl (.c .z (.c .z (.c .z (.c .z .nil)))))
  ·refine cSkip (xCode (cSeq (cRegion (lM .z4 (lM .z5 (lM .z7 (lR (dNil (.t .z2)) (lR (dFld fld_97_2 (by decide) (.t .z) rfl) ?_))))))))
   refine lChU (uStore .z siz_4 rfl .z4 (.t .z) (.c rfl)) (lR (dNil (.t .z3)) (lR (dFld fld_97_3 (by decide) (.t .z) rfl) (lChU (uStore .z siz_5 rfl .z5 (.t .z) (.t .z4)) (lKeep (.d (.d (.d (.d (.d (.d (.d (.d (.d (.k (.k (.k (.k .n))))))))))))) (lNil (xCode (cSeq (cSeq ?_))))))))
   refine cRegion (lM .z3 (lR (dEqB (.t .z) (.c (v' := vB 109) rfl)) (lKeep (.k (.d (.k (.k (.k .n))))) (lNil (xCode (cCond (.t .z) (fun h5 => ?_) (fun h5 => ?_)))))))
   ·refine cRegion (lM .z3 (lR (dNil (.t .z)) (lR (dFld fld_97_0 (by decide) (.t .z) rfl) (lR (dLoad .z agg_35 (.t .z) rfl) (lCallN fok_74 (.c (.t .z) .n) (screen_Screen_Clear_c _ b0_1 b0_2 v0_3) (.c .z1 (.c .z1 (.c .z1 .n))) rfl fun o6 x7 h8 => ?_)))))
    refine lKeep (.d (.d (.d (.d (.d (.k (.k .n))))))) (lNil (xCode (cSeq (cRegion (lRdK (dAssign (.c rfl)) (.k (.d (Keep.refl _))) rfl rfl (lRdK (dAssign (.c rfl)) (.k (.d (Keep.refl _))) rfl rfl (lNil (xCode ?_))))))))
    exact cRet (rLeave hD (lvRet (rs := [.tmp 4, .tmp 5]) rfl (.t .z1 (.t .z .n)) (x7.1, x7.2) rfl (.c .z3 (.c .z (.c .z (.c .z .nil))))))
   ·refine cSkip (xCode (cSeq (cRegion (lRdK (dAssign (.c rfl)) (.k (.k (.d (Keep.refl _)))) rfl rfl (lRdK (dAssign (.c rfl)) (.k (.k (.d (Keep.refl _)))) rfl rfl (lKeep (.k (.k .n)) (lNil (xCode ?_))))))))
    exact cRet (rLeave hD (lvRet (rs := [.tmp 4, .tmp 5]) rfl (.t .z1 (.t .z .n)) (b0_2, v0_3) rfl (.c .z (.c .z (.c .z (.c .z .nil))))))

-- (*greenscreen/plane.Plane).Cursor
def plane_Plane_Cursor_m (a0 : plane_Plane) : Option (Int) := some a0.f_cursor
theorem plane_Plane_Cursor_c (a0 : plane_Plane) (b0_0 : Nat) (v0_1 : Value) : Con Tryz.prog 68 #[.pointer (some ⟨b0_0, 0, none⟩)] [.blk b0_0 [.int .i64 a0.f_size.f_Rows, .int .i64 a0.f_size.f_Cols, v0_1, .int .i64 a0.f_cursor] 126, .own v0_1 80 k_api_Cell a0.f_cells] (plane_Plane_Cursor_m a0) (fun (o : Int) (x : Unit) => .int .i64 o) (fun (o : Int) (x : Unit) => [.blk b0_0 [.int .i64 a0.f_size.f_Rows, .int .i64 a0.f_size.f_Cols, v0_1, .int .i64 a0.f_cursor] 126, .own v0_1 80 k_api_Cell a0.f_cells]) := by
  unfold plane_Plane_Cursor_m
  refine con (args := [.pointer (some ⟨b0_0, 0, none⟩)]) Tryz.func68 rfl 7 rfl (.c .n) rfl fun c hD hrn => ?_
  refine cSeq (cRegion (lR (dAssign (.c rfl)) (lNil (xCode (cSeq (cRegion (lM .z1 (lR (dNil (.t .z)) ?_))))))))
  exact lR (dFld fld_126_2 (by decide) (.t .z) rfl) (lR (dLoad .z agg_3 (.t .z) rfl) (lAK .z (.k (.k (.k (.k (.d (Keep.refl _)))))) (lKeep (.k .n) (lNil (xCode (cRet (rLeave hD (lvRet (rs := [.tmp 2]) rfl (.t .z .n) () rfl (.c .z (.c .z .nil))))))))))

-- (*greenscreen/plane.Plane).has
def plane_Plane_has_m (a0 : plane_Plane) (a1 : Int) : Option (Bool) := (if a1 ≥ 0 then some (decide (a1 < (a0.f_cells.length : Int))) else some false)
theorem plane_Plane_has_c (a0 : plane_Plane) (a1 : Int) (b0_0 : Nat) (v0_1 : Value) : Con Tryz.prog 75 #[.pointer (some ⟨b0_0, 0, none⟩), .int .i64 a1] [.blk b0_0 [.int .i64 a0.f_size.f_Rows, .int .i64 a0.f_size.f_Cols, v0_1, .int .i64 a0.f_cursor] 126, .own v0_1 80 k_api_Cell a0.f_cells] (plane_Plane_has_m a0 a1) (fun (o : Bool) (x : Unit) => .bool o) (fun (o : Bool) (x : Unit) => [.blk b0_0 [.int .i64 a0.f_size.f_Rows, .int .i64 a0.f_size.f_Cols, v0_1, .int .i64 a0.f_cursor] 126, .own v0_1 80 k_api_Cell a0.f_cells]) := by
  unfold plane_Plane_has_m
  refine con (args := [.pointer (some ⟨b0_0, 0, none⟩), .int .i64 a1]) Tryz.func75 rfl 16 rfl (.c (.c .n)) rfl fun c hD hrn => ?_
  refine cSeq (cRegion (lR (dAssign (.c rfl)) (lNil (xCode (cSeq (cRegion (lM .z2 (lR (dGe (.t .z) (.c rfl)) ?_))))))))
  refine lM .z (lCase (fun h1 => ?_) (fun h1 => ?_))
  ·refine lG .z (decide_eq_true h1) (dMove (.t .z5)) (lG .z1 (decide_eq_true h1) (dMove (.t .z5)) (lG .z2 (decide_eq_true h1) (dNil (.t .z)) (lG .z3 (decide_eq_true h1) (dFld fld_126_1 (by decide) (.t .z) rfl) (lG .z4 (decide_eq_true h1) (dLoad .z agg_37 (.t .z) rfl) (lG .z5 (decide_eq_true h1) (dLen (at_ := #[37]) (slOwn .z1) rfl und_37 (.t .z)) (lG .z6 (decide_eq_true h1) (dLt (.t .z5) (.t .z)) ?_))))))
   exact lR (dPickT (.t .z7) (decide_eq_true h1) (.t .z)) (lAK .z (.k (.k (.k (.k (.k (.k (.k (.k (.k (.k (.k (.d (Keep.refl _))))))))))))) (lKeep (.k .n) (lNil (xCode (cRet (rLeave hD (lvRet (rs := [.tmp 4]) rfl (.t .z .n) () rfl (.c .z (.c .z .nil)))))))))
  ·refine lPass rfl .z (nbT (decide_eq_false h1)) rfl (lPass rfl .z (nbT (decide_eq_false h1)) rfl (lPass rfl .z (nbT (decide_eq_false h1)) rfl (lPass rfl .z (nbT (decide_eq_false h1)) rfl (lPass rfl .z (nbT (decide_eq_false h1)) rfl (lPass rfl .z (nbT (decide_eq_false h1)) rfl (lPass rfl .z (nbT (decide_eq_false h1)) rfl (lR (dPickF (.t .z) (decide_eq_false h1) (.c rfl)) (lAK .z (.k (.k (.k (.k (.d (Keep.refl _)))))) ?_))))))))
   exact lKeep (.k .n) (lNil (xCode (cRet (rLeave hD (lvRet (rs := [.tmp 4]) rfl (.t .z .n) () rfl (.c .z (.c .z .nil)))))))

-- (*greenscreen/plane.Plane).Point
def plane_Plane_Point_m (a0 : plane_Plane) (a1 : Int) : Option (plane_Plane × Bool) := (plane_Plane_has_m a0 a1).bind fun o1 => (if (!o1) = true then some (a0, false) else some ((⟨a0.f_size, a0.f_cells, a1⟩ : plane_Plane), true))
theorem plane_Plane_Point_c (a0 : plane_Plane) (a1 : Int) (b0_0 : Nat) (v0_1 : Value) : Con Tryz.prog 135 #[.pointer (some ⟨b0_0, 0, none⟩), .int .i64 a1] [.blk b0_0 [.int .i64 a0.f_size.f_Rows, .int .i64 a0.f_size.f_Cols, v0_1, .int .i64 a0.f_cursor] 126, .own v0_1 80 k_api_Cell a0.f_cells] (plane_Plane_Point_m a0 a1) (fun (o : plane_Plane × Bool) (x : Unit) => .bool o.2) (fun (o : plane_Plane × Bool) (x : Unit) => [.blk b0_0 [.int .i64 o.1.f_size.f_Rows, .int .i64 o.1.f_size.f_Cols, v0_1, .int .i64 o.1.f_cursor] 126, .own v0_1 80 k_api_Cell o.1.f_cells]) := by
  unfold plane_Plane_Point_m
  refine con (args := [.pointer (some ⟨b0_0, 0, none⟩), .int .i64 a1]) Tryz.func135 rfl 13 rfl (.c (.c .n)) rfl fun c hD hrn => ?_
  refine cSeq (cRegion (lR (dAssign (.c rfl)) (lNil (xCode (cSeq (cSeq (cRegion (lM .z1 ?_))))))))
  refine lM .z3 (lCall fok_75 (.c (.t .z1) (.c (.t .z) .n)) (plane_Plane_has_c a0 a1 b0_0 v0_1) (.c .z (.c .z .n)) rfl rfl fun o1 x2 h3 => ?_)
  refine lR (dNot (.t .z)) (lKeep (.k (.d (.d (.d (.k (.k (.k .n))))))) (lNil (xCode (cCondB (.t .z) (fun h4 => ?_) (fun h4 => ?_)))))
  ·exact cSeq (cRegion (lRdK (dAssign (.c rfl)) (.k (.d (Keep.refl _))) rfl rfl (lKeep (.k (.d (.k (.k .n)))) (lNil (xCode (cRet (rLeave hD (lvRet (rs := [.tmp 4]) rfl (.t .z .n) () rfl (.c .z (.c .z .nil))))))))))
  ·refine cSkip (xCode (cSeq (cRegion (lM .z2 (lM .z4 (lR (dNil (.t .z1)) (lR (dFld fld_126_2 (by decide) (.t .z) rfl) (lChU (uStore .z siz_3 rfl .z3 (.t .z) (.t .z2)) ?_))))))))
   refine lKeep (.d (.d (.d (.d (.d (.k .n)))))) (lNil (xCode (cSeq (cRegion (lRdK (dAssign (.c rfl)) (.d (Keep.refl _)) rfl rfl (lNil (xCode (cRet ?_))))))))
   exact rLeave hD (lvRet (rs := [.tmp 4]) rfl (.t .z .n) () rfl (.c .z (.c .z .nil)))

-- greenscreen/caret.to
def caret_to_m (a0 : plane_Plane) (a1 : Int) : Option (plane_Plane × Int) := (plane_Plane_Point_m a0 a1).bind fun o1 => some (o1.1, a1)
theorem caret_to_c (a0 : plane_Plane) (a1 : Int) (b0_0 : Nat) (v0_1 : Value) : Con Tryz.prog 141 #[.pointer (some ⟨b0_0, 0, none⟩), .int .i64 a1] [.blk b0_0 [.int .i64 a0.f_size.f_Rows, .int .i64 a0.f_size.f_Cols, v0_1, .int .i64 a0.f_cursor] 126, .own v0_1 80 k_api_Cell a0.f_cells] (caret_to_m a0 a1) (fun (o : plane_Plane × Int) (x : Unit) => .int .i64 o.2) (fun (o : plane_Plane × Int) (x : Unit) => [.blk b0_0 [.int .i64 o.1.f_size.f_Rows, .int .i64 o.1.f_size.f_Cols, v0_1, .int .i64 o.1.f_cursor] 126, .own v0_1 80 k_api_Cell o.1.f_cells]) := by
  unfold caret_to_m
  refine con (args := [.pointer (some ⟨b0_0, 0, none⟩), .int .i64 a1]) Tryz.func141 rfl 9 rfl (.c (.c .n)) rfl fun c hD hrn => ?_
  refine cSeq (cRegion (lR (dAssign (.c rfl)) (lNil (xCode (cSeq (cRegion (lM .z1 (lM .z3 ?_))))))))
  refine lCallN fok_135 (.c (.t .z1) (.c (.t .z) .n)) (plane_Plane_Point_c a0 a1 b0_0 v0_1) (.c .z (.c .z .n)) rfl fun o1 x2 h3 => ?_
  refine lKeep (.d (.d (.k (.d (.k .n))))) (lNil (xCode (cSeq (cRegion (lM .z1 (lAK .z (.k (.d (Keep.refl _))) (lKeep (.k .n) (lNil ?_))))))))
  exact xCode (cRet (rLeave hD (lvRet (rs := [.tmp 4]) rfl (.t .z .n) () rfl (.c .z (.c .z .nil)))))

-- (*greenscreen/plane.Plane).Len
def plane_Plane_Len_m (a0 : plane_Plane) : Option (Int) := some (a0.f_cells.length : Int)
theorem plane_Plane_Len_c (a0 : plane_Plane) (b0_0 : Nat) (v0_1 : Value) : Con Tryz.prog 66 #[.pointer (some ⟨b0_0, 0, none⟩)] [.blk b0_0 [.int .i64 a0.f_size.f_Rows, .int .i64 a0.f_size.f_Cols, v0_1, .int .i64 a0.f_cursor] 126, .own v0_1 80 k_api_Cell a0.f_cells] (plane_Plane_Len_m a0) (fun (o : Int) (x : Unit) => .int .i64 o) (fun (o : Int) (x : Unit) => [.blk b0_0 [.int .i64 a0.f_size.f_Rows, .int .i64 a0.f_size.f_Cols, v0_1, .int .i64 a0.f_cursor] 126, .own v0_1 80 k_api_Cell a0.f_cells]) := by
  unfold plane_Plane_Len_m
  refine con (args := [.pointer (some ⟨b0_0, 0, none⟩)]) Tryz.func66 rfl 8 rfl (.c .n) rfl fun c hD hrn => ?_
  refine cSeq (cRegion (lR (dAssign (.c rfl)) (lNil (xCode (cSeq (cRegion (lM .z1 (lR (dNil (.t .z)) ?_))))))))
  refine lR (dFld fld_126_1 (by decide) (.t .z) rfl) (lR (dLoad .z agg_37 (.t .z) rfl) (lR (dLen (at_ := #[37]) (slOwn .z1) rfl und_37 (.t .z)) (lAK .z (.k (.k (.k (.k (.k (.d (Keep.refl _))))))) (lKeep (.k .n) (lNil (xCode (cRet (rLeave hD ?_))))))))
  exact lvRet (rs := [.tmp 2]) rfl (.t .z .n) () rfl (.c .z (.c .z .nil))

-- greenscreen/attr.Protected
def attr_Protected_m (a0 : UInt8) : Option (Bool) := some (decide ((a0 &&& (32 : UInt8)) ≠ (0 : UInt8)))
theorem attr_Protected_c (a0 : UInt8) : Con Tryz.prog 133 #[vB a0] [] (attr_Protected_m a0) (fun (o : Bool) (x : Unit) => .bool o) (fun (o : Bool) (x : Unit) => []) := by
  unfold attr_Protected_m
  refine con (args := [vB a0]) Tryz.func133 rfl 6 rfl (.c .n) rfl fun c hD hrn => ?_
  refine cSeq (cRegion (lR (dAssign (.c rfl)) (lNil (xCode (cSeq (cRegion (lM .z1 (lR (dAndB (.t .z) (.c (v' := vB 32) rfl)) ?_))))))))
  exact lR (dNeB (.t .z) (.c (v' := vB 0) rfl)) (lAK .z (.k (.k (.k (.d (Keep.refl _))))) (lKeep (.k .n) (lNil (xCode (cRet (rLeave hD (lvRet (rs := [.tmp 2]) rfl (.t .z .n) () rfl .nil)))))))

-- (*greenscreen/plane.Plane).At
def plane_Plane_At_m (a0 : plane_Plane) (a1 : Int) : Option (api_Cell) := (plane_Plane_has_m a0 a1).bind fun o2 => (if (!o2) = true then some (⟨0, false, false, 0, 0⟩ : api_Cell) else (ix a0.f_cells a1).bind fun y6 => some y6)
theorem plane_Plane_At_c (a0 : plane_Plane) (a1 : Int) (b0_0 : Nat) (v0_1 : Value) : Con Tryz.prog 36 #[.pointer (some ⟨b0_0, 0, none⟩), .int .i64 a1] [.blk b0_0 [.int .i64 a0.f_size.f_Rows, .int .i64 a0.f_size.f_Cols, v0_1, .int .i64 a0.f_cursor] 126, .own v0_1 80 k_api_Cell a0.f_cells] (plane_Plane_At_m a0 a1) (fun (o : api_Cell) (x : Unit) => .agg #[vB o.f_Byte, .bool o.f_GE, .bool o.f_Start, vB o.f_Light, vB o.f_Color]) (fun (o : api_Cell) (x : Unit) => [.blk b0_0 [.int .i64 a0.f_size.f_Rows, .int .i64 a0.f_size.f_Cols, v0_1, .int .i64 a0.f_cursor] 126, .own v0_1 80 k_api_Cell a0.f_cells]) := by
  unfold plane_Plane_At_m
  refine con (args := [.pointer (some ⟨b0_0, 0, none⟩), .int .i64 a1]) Tryz.func36 rfl 17 rfl (.c (.c .n)) rfl fun c hD hrn => ?_
  refine cSeq (cRegion (lCh (cAlloc (cs := [vB 0, .bool false, .bool false, vB 0, vB 0]) zer_80 rfl) rfl rfl fun b1 => ?_))
  refine lNil (xCode (cSeq (cSeq (cRegion (lM .z1 (lM .z3 (lCall fok_75 (.c (.t .z1) (.c (.t .z) .n)) (plane_Plane_has_c a0 a1 b0_0 v0_1) (.c .z1 (.c .z1 .n)) rfl rfl fun o2 x3 h4 => ?_)))))))
  refine lR (dNot (.t .z)) (lKeep (.k (.d (.d (.d (.k (.k (.k .n))))))) (lNil (xCode (cCondB (.t .z) (fun h5 => ?_) (fun h5 => ?_)))))
  ·refine cSeq (cRegion (lR (dBuild (cs := [vB 0, .bool false, .bool false, vB 0, vB 0]) zer_80 rfl plc_80 .n rfl) (lChU (uStoreA (us := [vB 0, .bool false, .bool false, vB 0, vB 0]) (cs' := [vB 0, .bool false, .bool false, vB 0, vB 0]) .z2 siz_80 rfl (by intro u hu; simp only [List.mem_cons, List.not_mem_nil, or_false] at hu; rcases hu with rfl | rfl | rfl | rfl | rfl <;> first | rfl | assumption) rfl (by simp) (.t .z2) (.t .z)) (lKeep (.d (.d (.k (.k (.k .n))))) (lNil (xCode ?_))))))
   exact cRet (rLeave hD (lvRet (rs := [.cell 4 80]) rfl (.a .z .z2 agg_80 siz_80 .n) () rfl (.c .z (.c .z .nil))))
  ·refine cSkip (xCode (cSeq (cRegion (lM .z2 (lR (dNil (.t .z)) (lR (dFld fld_126_1 (by decide) (.t .z) rfl) (lR (dLoad .z agg_37 (.t .z) rfl) (lM .z7 ?_))))))))
   refine lIx fun y6 h7 h8 => ?_
   refine lR (dIxAddr (slOwn .z1) und_37 siz_80 (.t .z1) (.t .z) h7 h8) (lR (dLoadEA (us := [vB y6.f_Byte, .bool y6.f_GE, .bool y6.f_Start, vB y6.f_Light, vB y6.f_Color]) (slOwn .z1) agg_80 siz_80 rfl (.t .z) h8 (fun _ _ h => by cases h; rfl)) ?_)
   refine lChU (uStoreA (us := [vB y6.f_Byte, .bool y6.f_GE, .bool y6.f_Start, vB y6.f_Light, vB y6.f_Color]) (cs' := [vB y6.f_Byte, .bool y6.f_GE, .bool y6.f_Start, vB y6.f_Light, vB y6.f_Color]) .z2 siz_80 rfl (by intro u hu; simp only [List.mem_cons, List.not_mem_nil, or_false] at hu; rcases hu with rfl | rfl | rfl | rfl | rfl <;> first | rfl | assumption) rfl (by simp) (.t .z8) (.t .z)) (lKeep (.d (.d (.d (.d (.d (.d (.d (.d (.k .n))))))))) (lNil ?_))
   exact xCode (cRet (rLeave hD (lvRet (rs := [.cell 4 80]) rfl (.a .z .z2 agg_80 siz_80 .n) () rfl (.c .z (.c .z .nil)))))

-- (*greenscreen/plane.Plane).Size
def plane_Plane_Size_m (a0 : plane_Plane) : Option (api_Size) := some a0.f_size
theorem plane_Plane_Size_c (a0 : plane_Plane) (b0_0 : Nat) (v0_1 : Value) : Con Tryz.prog 147 #[.pointer (some ⟨b0_0, 0, none⟩)] [.blk b0_0 [.int .i64 a0.f_size.f_Rows, .int .i64 a0.f_size.f_Cols, v0_1, .int .i64 a0.f_cursor] 126, .own v0_1 80 k_api_Cell a0.f_cells] (plane_Plane_Size_m a0) (fun (o : api_Size) (x : Unit) => .agg #[.int .i64 o.f_Rows, .int .i64 o.f_Cols]) (fun (o : api_Size) (x : Unit) => [.blk b0_0 [.int .i64 a0.f_size.f_Rows, .int .i64 a0.f_size.f_Cols, v0_1, .int .i64 a0.f_cursor] 126, .own v0_1 80 k_api_Cell a0.f_cells]) := by
  unfold plane_Plane_Size_m
  refine con (args := [.pointer (some ⟨b0_0, 0, none⟩)]) Tryz.func147 rfl 7 rfl (.c .n) rfl fun c hD hrn => ?_
  refine cSeq (cRegion (lCh (cAlloc (cs := [.int .i64 0, .int .i64 0]) zer_33 rfl) rfl rfl fun b1 => ?_))
  refine lNil (xCode (cSeq (cRegion (lM .z1 (lR (dNil (.t .z)) (lR (dFld fld_126_0 (by decide) (.t .z) rfl) (lR (dLoadA (us := [.int .i64 a0.f_size.f_Rows, .int .i64 a0.f_size.f_Cols]) .z1 agg_33 siz_33 rfl (.t .z) rfl) (lChU (uStoreA (us := [.int .i64 a0.f_size.f_Rows, .int .i64 a0.f_size.f_Cols]) (cs' := [.int .i64 a0.f_size.f_Rows, .int .i64 a0.f_size.f_Cols]) .z siz_33 rfl (by intro u hu; simp only [List.mem_cons, List.not_mem_nil, or_false] at hu; rcases hu with rfl | rfl <;> first | rfl | assumption) rfl (by simp) (.t .z4) (.t .z)) ?_))))))))
  exact lKeep (.d (.d (.d (.d (.k .n))))) (lNil (xCode (cRet (rLeave hD (lvRet (rs := [.cell 2 33]) rfl (.a .z .z agg_33 siz_33 .n) () rfl (.c .z1 (.c .z1 .nil)))))))

-- greenscreen/addr.Move
def addr_Move_m (a0 : api_Size) (a1 : Int) (a2 : Int) : Option (Int) := (addr_Cells_m a0).bind fun o2 => (if o2 = 0 then some 0 else (if o2 ≠ 0 then (if o2 ≠ 0 then (if o2 ≠ 0 then (if o2 ≠ 0 then some (Int.tmod (w64 ((Int.tmod (w64 ((Int.tmod a1 o2) + (Int.tmod a2 o2))) o2) + o2)) o2) else none) else none) else none) else none))
theorem addr_Move_c (a0 : api_Size) (a1 : Int) (a2 : Int) : Con Tryz.prog 176 #[.agg #[.int .i64 a0.f_Rows, .int .i64 a0.f_Cols], .int .i64 a1, .int .i64 a2] [] (addr_Move_m a0 a1 a2) (fun (o : Int) (x : Unit) => .int .i64 o) (fun (o : Int) (x : Unit) => []) := by
  unfold addr_Move_m
  refine con (args := [.agg #[.int .i64 a0.f_Rows, .int .i64 a0.f_Cols], .int .i64 a1, .int .i64 a2]) Tryz.func176 rfl 25 rfl (.c (.c (.c .n))) rfl fun c hD hrn => ?_
  refine cSeq (cRegion (lCh (cBox (cs := [.int .i64 a0.f_Rows, .int .i64 a0.f_Cols]) (.t .z) rfl) rfl rfl fun b1 => ?_))
  refine lR (dAssign (.c rfl)) (lKeep (.k (.k (.d (.k (.k .n))))) (lNil (xCode (cSeq (cRegion (lR (dLoadA (us := [.int .i64 a0.f_Rows, .int .i64 a0.f_Cols]) .z agg_33 siz_33 rfl (.t .z1) rfl) (lCall fok_73 (.c (.t .z) .n) (addr_Cells_c a0) .n rfl rfl fun o2 x3 h4 => ?_)))))))
  refine lA .z (lKeep (.k (.d (.d (.k (.d (.k (.k .n))))))) (lNil (xCode (cSeq (cSeq (cRegion (lM .z (lR (dEq (.t .z) (.c rfl)) ?_))))))))
  refine lKeep (.k (.d (.k (.k (.k (.k .n)))))) (lNil (xCode (cCond (.t .z) (fun h5 => ?_) (fun h5 => ?_))))
  ·exact cSeq (cRegion (lRdK (dAssign (.c rfl)) (.k (.k (.d (Keep.refl _)))) rfl rfl (lKeep (.k (.d (.k (.k (.k .n))))) (lNil (xCode (cRet (rLeave hD (lvRet (rs := [.tmp 6]) rfl (.t .z .n) () rfl .nil))))))))
  ·refine cSkip (xCode (cSeq (cRegionM [] [(0, .early), (1, .early), (2, .early), (3, .early), (4, .early), (5, .early), (6, .early), (7, .early), (8, .early), (9, .early), (10, .early), (11, .early), (12, .early), (13, .early)] mixed (by kernel_rfl) (.c .z .nil) (.c .n) (mRd rfl rfl (fun _ _ _ => dMove (.t .z3)) rfl rfl ?_))))
   refine mRd rfl rfl (fun _ _ _ => dMove (.t .z2)) rfl rfl ?_
   refine mGuard fun h6 => ?_
   refine mRd rfl rfl (fun _ _ _ => dRem (.t .z1) (.t .z) h6) rfl rfl ?_
   refine mRd rfl rfl (fun _ _ _ => dMove (.t .z7)) rfl rfl ?_
   refine mRd rfl rfl (fun _ _ _ => dMove (.t .z5)) rfl rfl ?_
   refine mGuard fun h7 => ?_
   refine mRd rfl rfl (fun _ _ _ => dRem (.t .z1) (.t .z) h7) rfl rfl ?_
   refine mRd rfl rfl (fun _ _ _ => dAddI (.t .z3) (.t .z)) rfl rfl ?_
   refine mRd rfl rfl (fun _ _ _ => dMove (.t .z8)) rfl rfl ?_
   refine mGuard fun h8 => ?_
   refine mRd rfl rfl (fun _ _ _ => dRem (.t .z1) (.t .z) h8) rfl rfl ?_
   refine mRd rfl rfl (fun _ _ _ => dMove (.t .z10)) rfl rfl ?_
   refine mRd rfl rfl (fun _ _ _ => dAddI (.t .z1) (.t .z)) rfl rfl ?_
   refine mRd rfl rfl (fun _ _ _ => dMove (.t .z12)) rfl rfl ?_
   refine mGuard fun h9 => ?_
   refine mRd rfl rfl (fun _ _ _ => dRem (.t .z1) (.t .z) h9) rfl rfl ?_
   refine mRdK rfl rfl (fun _ _ _ => dAssign (.t .z)) (.k (.k (.k (.k (.k (.k (.k (.k (.k (.k (.k (.k (.k (.k (.k (.d (Keep.refl _))))))))))))))))) rfl rfl ?_
   exact mKeep (.k .n) (mNil (xCode (cRet (rLeave hD (lvRet (rs := [.tmp 6]) rfl (.t .z .n) () rfl .nil)))))

-- greenscreen/field.look
def field_look_l1 (K : Nat) (a0 : plane_Plane) (a1 : Int) (a2 : Int) (o8 : (Int)) : Nat → (Int) → Option (Sum (Unit) (Int))
  | 0, _ => none
  | n + 1, s11 => (if s11 < o8 then (plane_Plane_Size_m a0).bind fun o17 => (addr_Move_m o17 a1 (w64 (s11 * a2))).bind fun o20 => (plane_Plane_At_m a0 o20).bind fun o23 => (if o23.f_Start = true then some (Sum.inr o20) else (field_look_l1 K a0 a1 a2 o8 n) (w64 (s11 + 1))) else some (Sum.inl ()))
def field_look_m (K : Nat) (a0 : plane_Plane) (a1 : Int) (a2 : Int) : Option (Int) := ((if a1 < 0 then some true else (plane_Plane_Len_m a0).bind fun o2 => some (decide (a1 ≥ o2)))).bind fun (s5 : Bool) => (if s5 = true then some (-1) else (plane_Plane_Len_m a0).bind fun o8 => (field_look_l1 K a0 a1 a2 o8 K 0).bind (onS fun (s27 : Unit) => some (-1)))
theorem field_look_c (K : Nat) (a0 : plane_Plane) (a1 : Int) (a2 : Int) (b0_0 : Nat) (v0_1 : Value) : Con Tryz.prog 217 #[.pointer (some ⟨b0_0, 0, none⟩), .int .i64 a1, .int .i64 a2] [.blk b0_0 [.int .i64 a0.f_size.f_Rows, .int .i64 a0.f_size.f_Cols, v0_1, .int .i64 a0.f_cursor] 126, .own v0_1 80 k_api_Cell a0.f_cells] (field_look_m K a0 a1 a2) (fun (o : Int) (x : Unit) => .int .i64 o) (fun (o : Int) (x : Unit) => [.blk b0_0 [.int .i64 a0.f_size.f_Rows, .int .i64 a0.f_size.f_Cols, v0_1, .int .i64 a0.f_cursor] 126, .own v0_1 80 k_api_Cell a0.f_cells]) := by
  unfold field_look_m
  refine con (args := [.pointer (some ⟨b0_0, 0, none⟩), .int .i64 a1, .int .i64 a2]) Tryz.func217 rfl 35 rfl (.c (.c (.c .n))) rfl fun c hD hrn => ?_
  refine cSeq (cRegion (lR (dAssign (.c rfl)) (lNil (xCode (cSeq (cSeq (cJoin (S := Bool) (X := Unit) (fun (s : Bool) (x : Unit) => [(16, .bool s), (6, .int .i64 0), (0, .pointer (some ⟨b0_0, 0, none⟩)), (1, .int .i64 a1), (2, .int .i64 a2)]) (fun (s : Bool) (x : Unit) => [.blk b0_0 [.int .i64 a0.f_size.f_Rows, .int .i64 a0.f_size.f_Cols, v0_1, .int .i64 a0.f_cursor] 126, .own v0_1 80 k_api_Cell a0.f_cells]) ?_ (fun s5 x6 => ?_))))))))
  ·refine cRegion (lM .z2 (lR (dLt (.t .z) (.c rfl)) (lM .z (lCase (fun h1 => ?_) (fun h1 => ?_)))))
   ·exact lPass rfl .z (nbF (decide_eq_true h1)) rfl (lPass rfl .z (nbF (decide_eq_true h1)) rfl (lPass rfl .z (nbF (decide_eq_true h1)) rfl (lPass rfl .z (nbF (decide_eq_true h1)) rfl (lR (dPickT (.t .z) (decide_eq_true h1) (.c rfl)) (lKeep (.k (.d (.d (.d (.k (.k (.k (.k .n)))))))) (lNil (xJoin true () (.c .z (.c .z1 (.c .z2 (.c .z3 (.c .z4 .n))))) (.c .z (.c .z .nil)))))))))
   ·refine lG .z (decide_eq_false h1) (dMove (.t .z5)) (lG .z1 (decide_eq_false h1) (dMove (.t .z5)) (lCallG rfl .z2 (decide_eq_false h1) fok_66 (.c (.t .z) .n) (plane_Plane_Len_c a0 b0_0 v0_1) (.c .z (.c .z .n)) rfl rfl fun o2 x3 h4 => ?_))
    exact lG .z3 (decide_eq_false h1) (dGe (.t .z2) (.t .z)) (lR (dPickF (.t .z4) (decide_eq_false h1) (.t .z)) (lKeep (.k (.d (.d (.d (.d (.d (.d (.d (.k (.k (.k (.k .n)))))))))))) (lNil (xJoin (decide (a1 ≥ o2)) () (.c .z (.c .z1 (.c .z2 (.c .z3 (.c .z4 .n))))) (.c .z (.c .z .nil))))))
  ·refine xCode (cCondB (.t .z) (fun h7 => ?_) (fun h7 => ?_))
   ·exact cSeq (cRegion (lRdK (dAssign (.c rfl)) (.k (.d (Keep.refl _))) rfl rfl (lKeep (.k (.d (.k (.k (.k .n))))) (lNil (xCode (cRet (rLeave hD (lvRet (rs := [.tmp 6]) rfl (.t .z .n) () rfl (.c .z (.c .z .nil))))))))))
   ·refine cSkip (xCode (cSeq (cSeq (cRegion (lM .z2 (lCall fok_66 (.c (.t .z) .n) (plane_Plane_Len_c a0 b0_0 v0_1) (.c .z (.c .z .n)) rfl rfl fun o8 x9 h10 => ?_))))))
    refine lR (dMove (.c rfl)) (lKeep (.k (.k (.d (.d (.k (.k (.k (.k .n)))))))) (lNil (xCode (cLoopR (S := Int) (X := Unit) (S' := Unit) (X' := Unit) (field_look_l1 K a0 a1 a2 o8) (fun (s : Int) (x : Unit) => [(19, .int .i64 s), (18, .int .i64 o8), (6, .int .i64 0), (0, .pointer (some ⟨b0_0, 0, none⟩)), (1, .int .i64 a1), (2, .int .i64 a2)]) (fun (s : Int) (x : Unit) => [.blk b0_0 [.int .i64 a0.f_size.f_Rows, .int .i64 a0.f_size.f_Cols, v0_1, .int .i64 a0.f_cursor] 126, .own v0_1 80 k_api_Cell a0.f_cells]) (fun (s : Unit) (x : Unit) => [(6, .int .i64 0)]) (fun (s : Unit) (x : Unit) => [.blk b0_0 [.int .i64 a0.f_size.f_Rows, .int .i64 a0.f_size.f_Cols, v0_1, .int .i64 a0.f_cursor] 126, .own v0_1 80 k_api_Cell a0.f_cells]) K 0 () (.c .z (.c .z1 (.c .z2 (.c .z3 (.c .z4 (.c .z5 .n)))))) (.c .z (.c .z .nil)) (fun _ => rfl) (fun n13 I14 h15 s11 x12 => ?_) (fun s27 x28 => ?_)))))
    ·rw [field_look_l1]
     refine cSeq (cRegion (lR (dLt (.t .z) (.t .z1)) (lNil (xCode (cSeq (cCond (.t .z) (fun h16 => ?_) (fun h16 => ?_)))))))
     ·refine cSkip (xCode (cSeq (cBlock (cSeq (cRegion (lM .z1 (lA .z (lNil ?_))))))))
      refine xCode (cSeq (cRegion (lM .z6 (lCall fok_147 (.c (.t .z) .n) (plane_Plane_Size_c a0 b0_0 v0_1) (.c .z (.c .z .n)) rfl rfl fun o17 x18 h19 => ?_))))
      refine lM .z9 (lM .z3 (lM .z12 (lR (dMulI (.t .z1) (.t .z)) (lCall fok_176 (.c (.t .z4) (.c (.t .z3) (.c (.t .z) .n))) (addr_Move_c o17 a1 _) .n rfl rfl fun o20 x21 h22 => ?_))))
      refine lA .z (lNil (xCode (cSeq (cRegion (lM .z14 (lM .z1 (lCall fok_36 (.c (.t .z1) (.c (.t .z) .n)) (plane_Plane_At_c a0 o20 b0_0 v0_1) (.c .z (.c .z .n)) rfl rfl fun o23 x24 h25 => ?_)))))))
      refine lR (dField (u := .bool o23.f_Start) fld_80_2 (.t .z) rfl) (lNil (xCode (cCondB (.t .z) (fun h26 => ?_) (fun h26 => ?_))))
      ·refine cSeq (cRegion (lM .z4 (lAK .z (.k (.k (.k (.k (.k (.k (.k (.k (.k (.k (.k (.k (.k (.k (.k (.k (.k (.k (.d (Keep.refl _)))))))))))))))))))) (lNil (xCode (cRet (rInner (rLeave hD ?_))))))))
       exact lvRet (rs := [.tmp 6]) rfl (.t .z .n) () rfl (.c .z (.c .z .nil))
      ·exact cSkip (xBlock (xCode (cRegion (lR (dAddI (.t .z15) (.c rfl)) (lRdK (dMove (.t .z)) (.k (.k (.k (.k (.k (.k (.k (.k (.k (.k (.k (.k (.k (.k (.k (.k (.d (Keep.refl _)))))))))))))))))) rfl rfl (lNil (xRound h15 (w64 (s11 + 1)) () (.c .z (.c .z17 (.c .z18 (.c .z19 (.c .z20 (.c .z21 .n)))))) (.c .z (.c .z .nil)))))))))
     ·exact cExit (xOver (xOverF (xBreakR () () (.c .z3 .n) (.c .z (.c .z .nil)))))
    ·exact xCode (cSeq (cRegion (lRdK (dAssign (.c rfl)) (.d (Keep.refl _)) rfl rfl (lNil (xCode (cRet (rLeave hD (lvRet (rs := [.tmp 6]) rfl (.t .z .n) () rfl (.c .z (.c .z .nil))))))))))

-- greenscreen/field.After
def field_After_m (K : Nat) (a0 : plane_Plane) (a1 : Int) : Option (Int) := ((if a1 < 0 then some true else (plane_Plane_Len_m a0).bind fun o2 => some (decide (a1 ≥ o2)))).bind fun (s5 : Bool) => (if s5 = true then some (-1) else (plane_Plane_Size_m a0).bind fun o8 => (addr_Move_m o8 a1 1).bind fun o11 => (field_look_m K a0 o11 1).bind fun o14 => some o14)
theorem field_After_c (K : Nat) (a0 : plane_Plane) (a1 : Int) (b0_0 : Nat) (v0_1 : Value) : Con Tryz.prog 199 #[.pointer (some ⟨b0_0, 0, none⟩), .int .i64 a1] [.blk b0_0 [.int .i64 a0.f_size.f_Rows, .int .i64 a0.f_size.f_Cols, v0_1, .int .i64 a0.f_cursor] 126, .own v0_1 80 k_api_Cell a0.f_cells] (field_After_m K a0 a1) (fun (o : Int) (x : Unit) => .int .i64 o) (fun (o : Int) (x : Unit) => [.blk b0_0 [.int .i64 a0.f_size.f_Rows, .int .i64 a0.f_size.f_Cols, v0_1, .int .i64 a0.f_cursor] 126, .own v0_1 80 k_api_Cell a0.f_cells]) := by
  unfold field_After_m
  refine con (args := [.pointer (some ⟨b0_0, 0, none⟩), .int .i64 a1]) Tryz.func199 rfl 19 rfl (.c (.c .n)) rfl fun c hD hrn => ?_
  refine cSeq (cRegion (lR (dAssign (.c rfl)) (lNil (xCode (cSeq (cSeq (cJoin (S := Bool) (X := Unit) (fun (s : Bool) (x : Unit) => [(12, .bool s), (4, .int .i64 0), (0, .pointer (some ⟨b0_0, 0, none⟩)), (1, .int .i64 a1)]) (fun (s : Bool) (x : Unit) => [.blk b0_0 [.int .i64 a0.f_size.f_Rows, .int .i64 a0.f_size.f_Cols, v0_1, .int .i64 a0.f_cursor] 126, .own v0_1 80 k_api_Cell a0.f_cells]) ?_ (fun s5 x6 => ?_))))))))
  ·refine cRegion (lM .z2 (lR (dLt (.t .z) (.c rfl)) (lM .z (lCase (fun h1 => ?_) (fun h1 => ?_)))))
   ·exact lPass rfl .z (nbF (decide_eq_true h1)) rfl (lPass rfl .z (nbF (decide_eq_true h1)) rfl (lPass rfl .z (nbF (decide_eq_true h1)) rfl (lPass rfl .z (nbF (decide_eq_true h1)) rfl (lR (dPickT (.t .z) (decide_eq_true h1) (.c rfl)) (lKeep (.k (.d (.d (.d (.k (.k (.k .n))))))) (lNil (xJoin true () (.c .z (.c .z1 (.c .z2 (.c .z3 .n)))) (.c .z (.c .z .nil)))))))))
   ·refine lG .z (decide_eq_false h1) (dMove (.t .z5)) (lG .z1 (decide_eq_false h1) (dMove (.t .z5)) (lCallG rfl .z2 (decide_eq_false h1) fok_66 (.c (.t .z) .n) (plane_Plane_Len_c a0 b0_0 v0_1) (.c .z (.c .z .n)) rfl rfl fun o2 x3 h4 => ?_))
    exact lG .z3 (decide_eq_false h1) (dGe (.t .z2) (.t .z)) (lR (dPickF (.t .z4) (decide_eq_false h1) (.t .z)) (lKeep (.k (.d (.d (.d (.d (.d (.d (.d (.k (.k (.k .n))))))))))) (lNil (xJoin (decide (a1 ≥ o2)) () (.c .z (.c .z1 (.c .z2 (.c .z3 .n)))) (.c .z (.c .z .nil))))))
  ·refine xCode (cCondB (.t .z) (fun h7 => ?_) (fun h7 => ?_))
   ·exact cSeq (cRegion (lRdK (dAssign (.c rfl)) (.k (.d (Keep.refl _))) rfl rfl (lKeep (.k (.d (.k (.k .n)))) (lNil (xCode (cRet (rLeave hD (lvRet (rs := [.tmp 4]) rfl (.t .z .n) () rfl (.c .z (.c .z .nil))))))))))
   ·refine cSkip (xCode (cSeq (cRegion (lM .z2 (lM .z3 (lCall fok_147 (.c (.t .z) .n) (plane_Plane_Size_c a0 b0_0 v0_1) (.c .z (.c .z .n)) rfl rfl fun o8 x9 h10 => ?_))))))
    refine lM .z6 (lCall fok_176 (.c (.t .z1) (.c (.t .z) (.c (.c rfl) .n))) (addr_Move_c o8 a1 1) .n rfl rfl fun o11 x12 h13 => ?_)
    refine lCall fok_217 (.c (.t .z4) (.c (.t .z) (.c (.c rfl) .n))) (field_look_c K a0 o11 1 b0_0 v0_1) (.c .z (.c .z .n)) rfl rfl fun o14 x15 h16 => ?_
    exact lAK .z (.k (.k (.k (.k (.k (.k (.k (.d (Keep.refl _))))))))) (lKeep (.k .n) (lNil (xCode (cRet (rLeave hD (lvRet (rs := [.tmp 4]) rfl (.t .z .n) () rfl (.c .z (.c .z .nil))))))))

-- greenscreen/field.at
def field_at_m (K : Nat) (a0 : plane_Plane) (a1 : Int) : Option (field_Field) := (field_After_m K a0 a1).bind fun o2 => ((if (w64 ((w64 (o2 - a1)) - 1)) < 0 then (plane_Plane_Len_m a0).bind fun o6 => some (w64 ((w64 ((w64 (o2 - a1)) - 1)) + o6)) else some (w64 ((w64 (o2 - a1)) - 1)))).bind fun (s9 : Int) => (plane_Plane_At_m a0 a1).bind fun o11 => some (⟨a1, s9, o11.f_Byte &&& (63 : UInt8)⟩ : field_Field)
theorem field_at_c (K : Nat) (a0 : plane_Plane) (a1 : Int) (b0_0 : Nat) (v0_1 : Value) : Con Tryz.prog 174 #[.pointer (some ⟨b0_0, 0, none⟩), .int .i64 a1] [.blk b0_0 [.int .i64 a0.f_size.f_Rows, .int .i64 a0.f_size.f_Cols, v0_1, .int .i64 a0.f_cursor] 126, .own v0_1 80 k_api_Cell a0.f_cells] (field_at_m K a0 a1) (fun (o : field_Field) (x : Unit) => .agg #[.int .i64 o.f_Start, .int .i64 o.f_Len, vB o.f_Attr]) (fun (o : field_Field) (x : Unit) => [.blk b0_0 [.int .i64 a0.f_size.f_Rows, .int .i64 a0.f_size.f_Cols, v0_1, .int .i64 a0.f_cursor] 126, .own v0_1 80 k_api_Cell a0.f_cells]) := by
  unfold field_at_m
  refine con (args := [.pointer (some ⟨b0_0, 0, none⟩), .int .i64 a1]) Tryz.func174 rfl 26 rfl (.c (.c .n)) rfl fun c hD hrn => ?_
  refine cSeq (cRegion (lCh (cAlloc (cs := [.int .i64 0, .int .i64 0, vB 0]) zer_193 rfl) rfl rfl fun b1 => ?_))
  refine lNil (xCode (cSeq (cRegion (lM .z1 (lM .z3 (lCall fok_199 (.c (.t .z1) (.c (.t .z) .n)) (field_After_c K a0 a1 b0_0 v0_1) (.c .z1 (.c .z1 .n)) rfl rfl fun o2 x3 h4 => ?_))))))
  refine lM .z5 (lR (dSubI (.t .z1) (.t .z)) (lR (dSubI (.t .z) (.c rfl)) (lA .z (lKeep (.k (.d (.d (.d (.d (.d (.d (.k (.k (.k .n)))))))))) (lNil (xCode (cSeq (cSeq ?_))))))))
  refine cRegion (lM .z (lR (dLt (.t .z) (.c rfl)) (lKeep (.k (.d (.k (.k (.k (.k .n)))))) (lNil (xCode (cJoin (S := Int) (X := Unit) (fun (s : Int) (x : Unit) => [(5, .int .i64 s), (4, .pointer (some ⟨b1, 0, none⟩)), (0, .pointer (some ⟨b0_0, 0, none⟩)), (1, .int .i64 a1)]) (fun (s : Int) (x : Unit) => [.blk b0_0 [.int .i64 a0.f_size.f_Rows, .int .i64 a0.f_size.f_Cols, v0_1, .int .i64 a0.f_cursor] 126, .own v0_1 80 k_api_Cell a0.f_cells, .blk b1 [.int .i64 0, .int .i64 0, vB 0] 193]) ?_ (fun s9 x10 => ?_)))))))
  ·refine cCond (.t .z) (fun h5 => ?_) (fun h5 => ?_)
   ·refine cRegion (lM .z1 (lM .z4 (lCall fok_66 (.c (.t .z) .n) (plane_Plane_Len_c a0 b0_0 v0_1) (.c .z (.c .z .n)) rfl rfl fun o6 x7 h8 => ?_)))
    exact lR (dAddI (.t .z2) (.t .z)) (lAK .z (.k (.k (.k (.k (.k (.d (Keep.refl _))))))) (lKeep (.k (.d (.d (.d (.d (.d (.k (.k (.k .n))))))))) (lNil (xJoin (w64 ((w64 ((w64 (o2 - a1)) - 1)) + o6)) () (.c .z (.c .z1 (.c .z2 (.c .z3 .n)))) (.c .z (.c .z (.c .z .nil)))))))
   ·exact cSkip (xJoin (w64 ((w64 (o2 - a1)) - 1)) () (.c .z1 (.c .z2 (.c .z3 (.c .z4 .n)))) (.c .z (.c .z (.c .z .nil))))
  ·refine xCode (cSeq (cRegion (lM .z3 (lM .z1 (lM .z4 (lM .z6 (lCall fok_36 (.c (.t .z1) (.c (.t .z) .n)) (plane_Plane_At_c a0 a1 b0_0 v0_1) (.c .z (.c .z .n)) rfl rfl fun o11 x12 h13 => ?_)))))))
   refine lR (dField (u := vB o11.f_Byte) fld_80_0 (.t .z) rfl) (lR (dAndB (.t .z) (.c (v' := vB 63) rfl)) (lR (dBuild (cs := [.int .i64 a1, .int .i64 s9, vB (o11.f_Byte &&& (63 : UInt8))]) zer_193 rfl plc_193 (.c (.t .z6) (.c (.t .z5) (.c (.t .z) .n))) rfl) (lChU (uStoreA (us := [.int .i64 a1, .int .i64 s9, vB (o11.f_Byte &&& (63 : UInt8))]) (cs' := [.int .i64 a1, .int .i64 s9, vB (o11.f_Byte &&& (63 : UInt8))]) .z2 siz_193 rfl (by intro u hu; simp only [List.mem_cons, List.not_mem_nil, or_false] at hu; rcases hu with rfl | rfl | rfl <;> first | rfl | assumption) rfl (by simp) (.t .z9) (.t .z)) ?_)))
   exact lKeep (.d (.d (.d (.d (.d (.d (.d (.d (.d (.k .n)))))))))) (lNil (xCode (cRet (rLeave hD (lvRet (rs := [.cell 4 193]) rfl (.a .z .z2 agg_193 siz_193 .n) () rfl (.c .z (.c .z .nil)))))))

-- greenscreen/field.Before
def field_Before_m (K : Nat) (a0 : plane_Plane) (a1 : Int) : Option (Int) := (field_look_m K a0 a1 (-1)).bind fun o1 => some o1
theorem field_Before_c (K : Nat) (a0 : plane_Plane) (a1 : Int) (b0_0 : Nat) (v0_1 : Value) : Con Tryz.prog 181 #[.pointer (some ⟨b0_0, 0, none⟩), .int .i64 a1] [.blk b0_0 [.int .i64 a0.f_size.f_Rows, .int .i64 a0.f_size.f_Cols, v0_1, .int .i64 a0.f_cursor] 126, .own v0_1 80 k_api_Cell a0.f_cells] (field_Before_m K a0 a1) (fun (o : Int) (x : Unit) => .int .i64 o) (fun (o : Int) (x : Unit) => [.blk b0_0 [.int .i64 a0.f_size.f_Rows, .int .i64 a0.f_size.f_Cols, v0_1, .int .i64 a0.f_cursor] 126, .own v0_1 80 k_api_Cell a0.f_cells]) := by
  unfold field_Before_m
  refine con (args := [.pointer (some ⟨b0_0, 0, none⟩), .int .i64 a1]) Tryz.func181 rfl 8 rfl (.c (.c .n)) rfl fun c hD hrn => ?_
  refine cSeq (cRegion (lR (dAssign (.c rfl)) (lNil (xCode (cSeq (cRegion (lM .z1 (lM .z3 ?_))))))))
  refine lCall fok_217 (.c (.t .z1) (.c (.t .z) (.c (.c rfl) .n))) (field_look_c K a0 a1 _ b0_0 v0_1) (.c .z (.c .z .n)) rfl rfl fun o1 x2 h3 => ?_
  exact lAK .z (.k (.k (.k (.d (Keep.refl _))))) (lKeep (.k .n) (lNil (xCode (cRet (rLeave hD (lvRet (rs := [.tmp 4]) rfl (.t .z .n) () rfl (.c .z (.c .z .nil))))))))

-- greenscreen/field.Of
def field_Of_m (K : Nat) (a0 : plane_Plane) (a1 : Int) : Option (field_Field × Bool) := (field_Before_m K a0 a1).bind fun o2 => (if o2 < 0 then some ((⟨0, 0, 0⟩ : field_Field), false) else (field_at_m K a0 o2).bind fun o6 => some (o6, true))
theorem field_Of_c (K : Nat) (a0 : plane_Plane) (a1 : Int) (b0_0 : Nat) (v0_1 : Value) : Con Tryz.prog 143 #[.pointer (some ⟨b0_0, 0, none⟩), .int .i64 a1] [.blk b0_0 [.int .i64 a0.f_size.f_Rows, .int .i64 a0.f_size.f_Cols, v0_1, .int .i64 a0.f_cursor] 126, .own v0_1 80 k_api_Cell a0.f_cells] (field_Of_m K a0 a1) (fun (o : field_Field × Bool) (x : Unit) => .tuple #[.agg #[.int .i64 o.1.f_Start, .int .i64 o.1.f_Len, vB o.1.f_Attr], .bool o.2]) (fun (o : field_Field × Bool) (x : Unit) => [.blk b0_0 [.int .i64 a0.f_size.f_Rows, .int .i64 a0.f_size.f_Cols, v0_1, .int .i64 a0.f_cursor] 126, .own v0_1 80 k_api_Cell a0.f_cells]) := by
  unfold field_Of_m
  refine con (args := [.pointer (some ⟨b0_0, 0, none⟩), .int .i64 a1]) Tryz.func143 rfl 16 rfl (.c (.c .n)) rfl fun c hD hrn => ?_
  refine cSeq (cRegion (lCh (cAlloc (cs := [.int .i64 0, .int .i64 0, vB 0]) zer_193 rfl) rfl rfl fun b1 => ?_))
  refine lR (dAssign (.c rfl)) (lNil (xCode (cSeq (cRegion (lM .z2 (lM .z4 (lCall fok_181 (.c (.t .z1) (.c (.t .z) .n)) (field_Before_c K a0 a1 b0_0 v0_1) (.c .z1 (.c .z1 .n)) rfl rfl fun o2 x3 h4 => ?_)))))))
  refine lA .z (lKeep (.k (.d (.d (.d (.k (.k (.k .n))))))) (lNil (xCode (cSeq (cSeq (cRegion (lM .z (lR (dLt (.t .z) (.c rfl)) ?_))))))))
  refine lKeep (.k (.d (.k (.k (.k (.k .n)))))) (lNil (xCode (cCond (.t .z) (fun h5 => ?_) (fun h5 => ?_))))
  ·refine cSeq (cRegion (lR (dBuild (cs := [.int .i64 0, .int .i64 0, vB 0]) zer_193 rfl plc_193 .n rfl) (lChU (uStoreA (us := [.int .i64 0, .int .i64 0, vB 0]) (cs' := [.int .i64 0, .int .i64 0, vB 0]) .z2 siz_193 rfl (by intro u hu; simp only [List.mem_cons, List.not_mem_nil, or_false] at hu; rcases hu with rfl | rfl | rfl <;> first | rfl | assumption) rfl (by simp) (.t .z4) (.t .z)) (lRdK (dAssign (.c rfl)) (.k (.k (.k (.d (Keep.refl _))))) rfl rfl (lKeep (.k (.d (.d (.k (.k (.k .n)))))) ?_)))))
   exact lNil (xCode (cRet (rLeave hD (lvRet (rs := [.cell 4 193, .tmp 5]) rfl (.a .z2 .z2 agg_193 siz_193 (.t .z .n)) () rfl (.c .z (.c .z .nil))))))
  ·refine cSkip (xCode (cSeq (cRegion (lM .z4 (lM .z2 (lCall fok_174 (.c (.t .z1) (.c (.t .z) .n)) (field_at_c K a0 o2 b0_0 v0_1) (.c .z (.c .z .n)) rfl rfl fun o6 x7 h8 => ?_))))))
   refine lChU (uStoreA (us := [.int .i64 o6.f_Start, .int .i64 o6.f_Len, vB o6.f_Attr]) (cs' := [.int .i64 o6.f_Start, .int .i64 o6.f_Len, vB o6.f_Attr]) .z2 siz_193 rfl (by intro u hu; simp only [List.mem_cons, List.not_mem_nil, or_false] at hu; rcases hu with rfl | rfl | rfl <;> first | rfl | assumption) rfl (by simp) (.t .z6) (.t .z)) (lRdK (dAssign (.c rfl)) (.k (.k (.k (.k (.k (.d (Keep.refl _))))))) rfl rfl (lKeep (.k (.d (.d (.d (.d (.d (.k .n))))))) ?_))
   exact lNil (xCode (cRet (rLeave hD (lvRet (rs := [.cell 4 193, .tmp 5]) rfl (.a .z1 .z2 agg_193 siz_193 (.t .z .n)) () rfl (.c .z (.c .z .nil))))))

-- greenscreen/caret.open
def caret_open_m (K : Nat) (a0 : plane_Plane) (a1 : Int) : Option (Bool) := (field_Of_m K a0 a1).bind fun o1 => (if o1.2 = true then (if o1.1.f_Start = a1 then (if o1.1.f_Len > 0 then (attr_Protected_m o1.1.f_Attr).bind fun o8 => some (!o8) else some false) else some false) else some false)
theorem caret_open_c (K : Nat) (a0 : plane_Plane) (a1 : Int) (b0_0 : Nat) (v0_1 : Value) : Con Tryz.prog 144 #[.pointer (some ⟨b0_0, 0, none⟩), .int .i64 a1] [.blk b0_0 [.int .i64 a0.f_size.f_Rows, .int .i64 a0.f_size.f_Cols, v0_1, .int .i64 a0.f_cursor] 126, .own v0_1 80 k_api_Cell a0.f_cells] (caret_open_m K a0 a1) (fun (o : Bool) (x : Unit) => .bool o) (fun (o : Bool) (x : Unit) => [.blk b0_0 [.int .i64 a0.f_size.f_Rows, .int .i64 a0.f_size.f_Cols, v0_1, .int .i64 a0.f_cursor] 126, .own v0_1 80 k_api_Cell a0.f_cells]) := by
  unfold caret_open_m
  refine con (args := [.pointer (some ⟨b0_0, 0, none⟩), .int .i64 a1]) Tryz.func144 rfl 31 rfl (.c (.c .n)) rfl fun c hD hrn => ?_
  refine cSeq (cRegion (lR (dAssign (.c rfl)) (lNil (xCode (cSeq (cRegion (lM .z1 (lM .z3 ?_))))))))
  refine lCall fok_143 (.c (.t .z1) (.c (.t .z) .n)) (field_Of_c K a0 a1 b0_0 v0_1) (.c .z (.c .z .n)) rfl rfl fun o1 x2 h3 => ?_
  refine lM .z (lR (dExtract (.t .z) rfl) (lR (dExtract (.t .z1) rfl) (lCh (cAlloc (cs := [.int .i64 0, .int .i64 0, vB 0]) zer_193 rfl) rfl rfl fun b4 => ?_)))
  refine lChU (uStoreA (us := [.int .i64 o1.1.f_Start, .int .i64 o1.1.f_Len, vB o1.1.f_Attr]) (cs' := [.int .i64 o1.1.f_Start, .int .i64 o1.1.f_Len, vB o1.1.f_Attr]) .z siz_193 rfl (by intro u hu; simp only [List.mem_cons, List.not_mem_nil, or_false] at hu; rcases hu with rfl | rfl | rfl <;> first | rfl | assumption) rfl (by simp) (.t .z) (.t .z2)) (lA .z1 (lKeep (.k (.k (.d (.d (.d (.d (.d (.d (.k (.d (.k .n))))))))))) (lNil (xCode (cSeq (cRegion (lM .z (lM .z ?_))))))))
  refine lCase (fun h5 => ?_) (fun h5 => ?_)
  ·refine lG .z h5 (dFld fld_193_0 (by decide) (.t .z3) rfl) (lG .z1 h5 (dLoad .z agg_3 (.t .z) rfl) (lG .z2 h5 (dMove (.t .z7)) (lG .z3 h5 (dEq (.t .z1) (.t .z)) (lR (dPickT (.t .z4) h5 (.t .z)) (lM .z (lCase (fun h6 => ?_) (fun h6 => ?_)))))))
   ·refine lG .z (decide_eq_true h6) (dFld fld_193_1 (by decide) (.t .z9) rfl) (lG .z1 (decide_eq_true h6) (dLoad .z agg_3 (.t .z) rfl) (lG .z2 (decide_eq_true h6) (dGt (.t .z) (.c rfl)) (lR (dPickT (.t .z3) (decide_eq_true h6) (.t .z)) (lM .z (lCase (fun h7 => ?_) (fun h7 => ?_))))))
    ·refine lG .z (decide_eq_true h7) (dFld fld_193_2 (by decide) (.t .z14) rfl) (lG .z1 (decide_eq_true h7) (dLoad .z agg_5 (.t .z) rfl) (lCallG rfl .z2 (decide_eq_true h7) fok_133 (.c (.t .z) .n) (attr_Protected_c _) .n rfl rfl fun o8 x9 h10 => ?_))
     exact lG .z3 (decide_eq_true h7) (dNot (.t .z)) (lR (dPickT (.t .z4) (decide_eq_true h7) (.t .z)) (lAK .z (.k (.k (.k (.k (.k (.k (.k (.k (.k (.k (.k (.k (.k (.k (.k (.k (.k (.k (.k (.k (.d (Keep.refl _)))))))))))))))))))))) (lKeep (.k .n) (lNil (xCode (cRet (rLeave hD (lvRet (rs := [.tmp 4]) rfl (.t .z .n) () rfl (.c .z1 (.c .z1 .nil))))))))))
    ·refine lPass rfl .z (nbT (decide_eq_false h7)) rfl (lPass rfl .z (nbT (decide_eq_false h7)) rfl (lPass rfl .z (nbT (decide_eq_false h7)) rfl (lPass rfl .z (nbT (decide_eq_false h7)) rfl (lR (dPickF (.t .z) (decide_eq_false h7) (.c rfl)) (lAK .z (.k (.k (.k (.k (.k (.k (.k (.k (.k (.k (.k (.k (.k (.k (.k (.k (.d (Keep.refl _)))))))))))))))))) (lKeep (.k .n) (lNil (xCode ?_))))))))
     exact cRet (rLeave hD (lvRet (rs := [.tmp 4]) rfl (.t .z .n) () rfl (.c .z1 (.c .z1 .nil))))
   ·refine lPass rfl .z (nbT (decide_eq_false h6)) rfl (lPass rfl .z (nbT (decide_eq_false h6)) rfl (lPass rfl .z (nbT (decide_eq_false h6)) rfl (lR (dPickF (.t .z) (decide_eq_false h6) (.c rfl)) (lM .z (lPass rfl .z (nbT rfl) rfl (lPass rfl .z (nbT rfl) rfl (lPass rfl .z (nbT rfl) rfl (lPass rfl .z (nbT rfl) rfl ?_))))))))
    exact lR (dPickF (.t .z) rfl (.c rfl)) (lAK .z (.k (.k (.k (.k (.k (.k (.k (.k (.k (.k (.k (.k (.k (.d (Keep.refl _))))))))))))))) (lKeep (.k .n) (lNil (xCode (cRet (rLeave hD (lvRet (rs := [.tmp 4]) rfl (.t .z .n) () rfl (.c .z1 (.c .z1 .nil)))))))))
  ·refine lPass rfl .z (nbT (Bool.eq_false_iff.mpr h5)) rfl (lPass rfl .z (nbT (Bool.eq_false_iff.mpr h5)) rfl (lPass rfl .z (nbT (Bool.eq_false_iff.mpr h5)) rfl (lPass rfl .z (nbT (Bool.eq_false_iff.mpr h5)) rfl (lR (dPickF (.t .z) (Bool.eq_false_iff.mpr h5) (.c rfl)) (lM .z (lPass rfl .z (nbT rfl) rfl (lPass rfl .z (nbT rfl) rfl (lPass rfl .z (nbT rfl) rfl ?_))))))))
   refine lR (dPickF (.t .z) rfl (.c rfl)) (lM .z (lPass rfl .z (nbT rfl) rfl (lPass rfl .z (nbT rfl) rfl (lPass rfl .z (nbT rfl) rfl (lPass rfl .z (nbT rfl) rfl (lR (dPickF (.t .z) rfl (.c rfl)) (lAK .z (.k (.k (.k (.k (.k (.k (.k (.k (.k (.d (Keep.refl _))))))))))) (lKeep (.k .n) ?_))))))))
   exact lNil (xCode (cRet (rLeave hD (lvRet (rs := [.tmp 4]) rfl (.t .z .n) () rfl (.c .z1 (.c .z1 .nil))))))

-- greenscreen/caret.by
def caret_by_m (a0 : plane_Plane) (a1 : Int) (a2 : Int) : Option (Int) := (plane_Plane_Size_m a0).bind fun o1 => (addr_Move_m o1 a1 a2).bind fun o4 => some o4
theorem caret_by_c (a0 : plane_Plane) (a1 : Int) (a2 : Int) (b0_0 : Nat) (v0_1 : Value) : Con Tryz.prog 145 #[.pointer (some ⟨b0_0, 0, none⟩), .int .i64 a1, .int .i64 a2] [.blk b0_0 [.int .i64 a0.f_size.f_Rows, .int .i64 a0.f_size.f_Cols, v0_1, .int .i64 a0.f_cursor] 126, .own v0_1 80 k_api_Cell a0.f_cells] (caret_by_m a0 a1 a2) (fun (o : Int) (x : Unit) => .int .i64 o) (fun (o : Int) (x : Unit) => [.blk b0_0 [.int .i64 a0.f_size.f_Rows, .int .i64 a0.f_size.f_Cols, v0_1, .int .i64 a0.f_cursor] 126, .own v0_1 80 k_api_Cell a0.f_cells]) := by
  unfold caret_by_m
  refine con (args := [.pointer (some ⟨b0_0, 0, none⟩), .int .i64 a1, .int .i64 a2]) Tryz.func145 rfl 12 rfl (.c (.c (.c .n))) rfl fun c hD hrn => ?_
  refine cSeq (cRegion (lR (dAssign (.c rfl)) (lNil (xCode (cSeq (cRegion (lM .z1 (lCall fok_147 (.c (.t .z) .n) (plane_Plane_Size_c a0 b0_0 v0_1) (.c .z (.c .z .n)) rfl rfl fun o1 x2 h3 => ?_))))))))
  refine lM .z4 (lM .z6 (lCall fok_176 (.c (.t .z2) (.c (.t .z1) (.c (.t .z) .n))) (addr_Move_c o1 a1 a2) .n rfl rfl fun o4 x5 h6 => ?_))
  exact lAK .z (.k (.k (.k (.k (.k (.d (Keep.refl _))))))) (lKeep (.k .n) (lNil (xCode (cRet (rLeave hD (lvRet (rs := [.tmp 6]) rfl (.t .z .n) () rfl (.c .z (.c .z .nil))))))))

-- greenscreen/caret.seek
def caret_seek_l1 (K : Nat) (a0 : plane_Plane) (a1 : Int) (a2 : Int) (o1 : (Int)) : Nat → (Int) → Option (Sum (Unit) (Int))
  | 0, _ => none
  | n + 1, s4 => (if s4 < o1 then (caret_by_m a0 a1 (w64 (s4 * a2))).bind fun o10 => (caret_open_m K a0 o10).bind fun o13 => (if o13 = true then (caret_by_m a0 o10 1).bind fun o17 => some (Sum.inr o17) else (caret_seek_l1 K a0 a1 a2 o1 n) (w64 (s4 + 1))) else some (Sum.inl ()))
def caret_seek_m (K : Nat) (a0 : plane_Plane) (a1 : Int) (a2 : Int) : Option (Int) := (plane_Plane_Len_m a0).bind fun o1 => (caret_seek_l1 K a0 a1 a2 o1 K 0).bind (onS fun (s20 : Unit) => some 0)
theorem caret_seek_c (K : Nat) (a0 : plane_Plane) (a1 : Int) (a2 : Int) (b0_0 : Nat) (v0_1 : Value) : Con Tryz.prog 142 #[.pointer (some ⟨b0_0, 0, none⟩), .int .i64 a1, .int .i64 a2] [.blk b0_0 [.int .i64 a0.f_size.f_Rows, .int .i64 a0.f_size.f_Cols, v0_1, .int .i64 a0.f_cursor] 126, .own v0_1 80 k_api_Cell a0.f_cells] (caret_seek_m K a0 a1 a2) (fun (o : Int) (x : Unit) => .int .i64 o) (fun (o : Int) (x : Unit) => [.blk b0_0 [.int .i64 a0.f_size.f_Rows, .int .i64 a0.f_size.f_Cols, v0_1, .int .i64 a0.f_cursor] 126, .own v0_1 80 k_api_Cell a0.f_cells]) := by
  unfold caret_seek_m
  refine con (args := [.pointer (some ⟨b0_0, 0, none⟩), .int .i64 a1, .int .i64 a2]) Tryz.func142 rfl 27 rfl (.c (.c (.c .n))) rfl fun c hD hrn => ?_
  refine cSeq (cRegion (lR (dAssign (.c rfl)) (lNil (xCode (cSeq (cSeq (cRegion (lM .z1 ?_))))))))
  refine lCall fok_66 (.c (.t .z) .n) (plane_Plane_Len_c a0 b0_0 v0_1) (.c .z (.c .z .n)) rfl rfl fun o1 x2 h3 => ?_
  refine lR (dMove (.c rfl)) (lKeep (.k (.k (.d (.k (.k (.k (.k .n))))))) (lNil (xCode (cLoopR (S := Int) (X := Unit) (S' := Unit) (X' := Unit) (caret_seek_l1 K a0 a1 a2 o1) (fun (s : Int) (x : Unit) => [(11, .int .i64 s), (10, .int .i64 o1), (6, .int .i64 0), (0, .pointer (some ⟨b0_0, 0, none⟩)), (1, .int .i64 a1), (2, .int .i64 a2)]) (fun (s : Int) (x : Unit) => [.blk b0_0 [.int .i64 a0.f_size.f_Rows, .int .i64 a0.f_size.f_Cols, v0_1, .int .i64 a0.f_cursor] 126, .own v0_1 80 k_api_Cell a0.f_cells]) (fun (s : Unit) (x : Unit) => [(6, .int .i64 0)]) (fun (s : Unit) (x : Unit) => [.blk b0_0 [.int .i64 a0.f_size.f_Rows, .int .i64 a0.f_size.f_Cols, v0_1, .int .i64 a0.f_cursor] 126, .own v0_1 80 k_api_Cell a0.f_cells]) K 0 () (.c .z (.c .z1 (.c .z2 (.c .z3 (.c .z4 (.c .z5 .n)))))) (.c .z (.c .z .nil)) (fun _ => rfl) (fun n6 I7 h8 s4 x5 => ?_) (fun s20 x21 => ?_)))))
  ·rw [caret_seek_l1]
   refine cSeq (cRegion (lR (dLt (.t .z) (.t .z1)) (lNil (xCode (cSeq (cCond (.t .z) (fun h9 => ?_) (fun h9 => ?_)))))))
   ·refine cSkip (xCode (cSeq (cBlock (cSeq (cRegion (lM .z1 (lA .z (lNil ?_))))))))
    refine xCode (cSeq (cRegion (lM .z6 (lM .z8 (lM .z2 (lM .z11 (lR (dMulI (.t .z1) (.t .z)) (lCall fok_145 (.c (.t .z4) (.c (.t .z3) (.c (.t .z) .n))) (caret_by_c a0 a1 _ b0_0 v0_1) (.c .z (.c .z .n)) rfl rfl fun o10 x11 h12 => ?_))))))))
    refine lA .z (lNil (xCode (cSeq (cRegion (lM .z13 (lM .z1 (lCall fok_144 (.c (.t .z1) (.c (.t .z) .n)) (caret_open_c K a0 o10 b0_0 v0_1) (.c .z (.c .z .n)) rfl rfl fun o13 x14 h15 => ?_)))))))
    refine lNil (xCode (cCondB (.t .z) (fun h16 => ?_) (fun h16 => ?_)))
    ·refine cSeq (cRegion (lM .z16 (lM .z4 (lCall fok_145 (.c (.t .z1) (.c (.t .z) (.c (.c rfl) .n))) (caret_by_c a0 o10 1 b0_0 v0_1) (.c .z (.c .z .n)) rfl rfl fun o17 x18 h19 => ?_))))
     exact lAK .z (.k (.k (.k (.k (.k (.k (.k (.k (.k (.k (.k (.k (.k (.k (.k (.k (.k (.k (.d (Keep.refl _)))))))))))))))))))) (lNil (xCode (cRet (rInner (rLeave hD (lvRet (rs := [.tmp 6]) rfl (.t .z .n) () rfl (.c .z (.c .z .nil))))))))
    ·exact cSkip (xBlock (xCode (cRegion (lR (dAddI (.t .z13) (.c rfl)) (lRdK (dMove (.t .z)) (.k (.k (.k (.k (.k (.k (.k (.k (.k (.k (.k (.k (.k (.k (.d (Keep.refl _)))))))))))))))) rfl rfl (lNil (xRound h8 (w64 (s4 + 1)) () (.c .z (.c .z15 (.c .z16 (.c .z17 (.c .z18 (.c .z19 .n)))))) (.c .z (.c .z .nil)))))))))
   ·exact cExit (xOver (xOverF (xBreakR () () (.c .z3 .n) (.c .z (.c .z .nil)))))
  ·exact xCode (cSeq (cRegion (lRdK (dAssign (.c rfl)) (.d (Keep.refl _)) rfl rfl (lNil (xCode (cRet (rLeave hD (lvRet (rs := [.tmp 6]) rfl (.t .z .n) () rfl (.c .z (.c .z .nil))))))))))

-- greenscreen/caret.Tab
def caret_Tab_m (K : Nat) (a0 : plane_Plane) : Option (plane_Plane × Int) := (plane_Plane_Cursor_m a0).bind fun o1 => (caret_seek_m K a0 o1 1).bind fun o4 => (caret_to_m a0 o4).bind fun o7 => some (o7.1, o7.2)
theorem caret_Tab_c (K : Nat) (a0 : plane_Plane) (b0_0 : Nat) (v0_1 : Value) : Con Tryz.prog 95 #[.pointer (some ⟨b0_0, 0, none⟩)] [.blk b0_0 [.int .i64 a0.f_size.f_Rows, .int .i64 a0.f_size.f_Cols, v0_1, .int .i64 a0.f_cursor] 126, .own v0_1 80 k_api_Cell a0.f_cells] (caret_Tab_m K a0) (fun (o : plane_Plane × Int) (x : Unit) => .int .i64 o.2) (fun (o : plane_Plane × Int) (x : Unit) => [.blk b0_0 [.int .i64 o.1.f_size.f_Rows, .int .i64 o.1.f_size.f_Cols, v0_1, .int .i64 o.1.f_cursor] 126, .own v0_1 80 k_api_Cell o.1.f_cells]) := by
  unfold caret_Tab_m
  refine con (args := [.pointer (some ⟨b0_0, 0, none⟩)]) Tryz.func95 rfl 9 rfl (.c .n) rfl fun c hD hrn => ?_
  refine cSeq (cRegion (lR (dAssign (.c rfl)) (lNil (xCode (cSeq (cRegion (lM .z1 (lM .z2 ?_))))))))
  refine lM .z3 (lCall fok_68 (.c (.t .z) .n) (plane_Plane_Cursor_c a0 b0_0 v0_1) (.c .z (.c .z .n)) rfl rfl fun o1 x2 h3 => ?_)
  refine lCall fok_142 (.c (.t .z2) (.c (.t .z) (.c (.c rfl) .n))) (caret_seek_c K a0 o1 1 b0_0 v0_1) (.c .z (.c .z .n)) rfl rfl fun o4 x5 h6 => ?_
  refine lCall fok_141 (.c (.t .z4) (.c (.t .z) .n)) (caret_to_c a0 o4 b0_0 v0_1) (.c .z (.c .z .n)) rfl rfl fun o7 x8 h9 => ?_
  exact lAK .z (.k (.k (.k (.k (.k (.k (.d (Keep.refl _)))))))) (lKeep (.k .n) (lNil (xCode (cRet (rLeave hD (lvRet (rs := [.tmp 2]) rfl (.t .z .n) () rfl (.c .z (.c .z .nil))))))))

-- greenscreen/caret.Back
def caret_Back_m (K : Nat) (a0 : plane_Plane) : Option (plane_Plane × Int) := (plane_Plane_Cursor_m a0).bind fun o1 => (field_Of_m K a0 o1).bind fun o4 => ((if o4.2 = true then (caret_open_m K a0 o4.1.f_Start).bind fun o9 => (if o9 = true then (if o1 ≠ o4.1.f_Start then (caret_by_m a0 o4.1.f_Start 1).bind fun o14 => some (decide (o1 ≠ o14)) else some false) else some false) else some false)).bind fun (s17 : Bool) => (if s17 = true then (caret_by_m a0 o4.1.f_Start 1).bind fun o20 => (caret_to_m a0 o20).bind fun o23 => some (o23.1, o23.2) else (caret_by_m a0 o1 (-2)).bind fun o26 => (caret_seek_m K a0 o26 (-1)).bind fun o29 => (caret_to_m a0 o29).bind fun o32 => some (o32.1, o32.2))
theorem caret_Back_c (K : Nat) (a0 : plane_Plane) (b0_0 : Nat) (v0_1 : Value) : Con Tryz.prog 96 #[.pointer (some ⟨b0_0, 0, none⟩)] [.blk b0_0 [.int .i64 a0.f_size.f_Rows, .int .i64 a0.f_size.f_Cols, v0_1, .int .i64 a0.f_cursor] 126, .own v0_1 80 k_api_Cell a0.f_cells] (caret_Back_m K a0) (fun (o : plane_Plane × Int) (x : Unit) => .int .i64 o.2) (fun (o : plane_Plane × Int) (x : Unit) => [.blk b0_0 [.int .i64 o.1.f_size.f_Rows, .int .i64 o.1.f_size.f_Cols, v0_1, .int .i64 o.1.f_cursor] 126, .own v0_1 80 k_api_Cell o.1.f_cells]) := by
  unfold caret_Back_m
  refine con (args := [.pointer (some ⟨b0_0, 0, none⟩)]) Tryz.func96 rfl 48 rfl (.c .n) rfl fun c hD hrn => ?_
  refine cSeq (cRegion (lR (dAssign (.c rfl)) (lNil (xCode (cSeq (cRegion (lM .z1 (lCall fok_68 (.c (.t .z) .n) (plane_Plane_Cursor_c a0 b0_0 v0_1) (.c .z (.c .z .n)) rfl rfl fun o1 x2 h3 => ?_))))))))
  refine lA .z (lKeep (.k (.d (.d (.k (.k .n))))) (lNil (xCode (cSeq (cSeq (cRegion (lM .z2 (lM .z1 ?_))))))))
  refine lCall fok_143 (.c (.t .z1) (.c (.t .z) .n)) (field_Of_c K a0 o1 b0_0 v0_1) (.c .z (.c .z .n)) rfl rfl fun o4 x5 h6 => ?_
  refine lM .z (lR (dExtract (.t .z) rfl) (lR (dExtract (.t .z1) rfl) (lCh (cAlloc (cs := [.int .i64 0, .int .i64 0, vB 0]) zer_193 rfl) rfl rfl fun b7 => ?_)))
  refine lChU (uStoreA (us := [.int .i64 o4.1.f_Start, .int .i64 o4.1.f_Len, vB o4.1.f_Attr]) (cs' := [.int .i64 o4.1.f_Start, .int .i64 o4.1.f_Len, vB o4.1.f_Attr]) .z siz_193 rfl (by intro u hu; simp only [List.mem_cons, List.not_mem_nil, or_false] at hu; rcases hu with rfl | rfl | rfl <;> first | rfl | assumption) rfl (by simp) (.t .z) (.t .z2)) (lA .z1 (lKeep (.k (.k (.d (.d (.d (.d (.d (.d (.k (.k (.k .n))))))))))) (lNil (xCode (cSeq (cJoin (S := Bool) (X := Unit) (fun (s : Bool) (x : Unit) => [(34, .bool s), (4, .pointer (some ⟨b7, 0, none⟩)), (3, .int .i64 o1), (2, .int .i64 0), (0, .pointer (some ⟨b0_0, 0, none⟩))]) (fun (s : Bool) (x : Unit) => [.blk b0_0 [.int .i64 a0.f_size.f_Rows, .int .i64 a0.f_size.f_Cols, v0_1, .int .i64 a0.f_cursor] 126, .own v0_1 80 k_api_Cell a0.f_cells, .blk b7 [.int .i64 o4.1.f_Start, .int .i64 o4.1.f_Len, vB o4.1.f_Attr] 193]) ?_ (fun s17 x18 => ?_)))))))
  ·refine cRegion (lM .z (lM .z (lCase (fun h8 => ?_) (fun h8 => ?_))))
   ·refine lG .z h8 (dMove (.t .z6)) (lG .z1 h8 (dFld fld_193_0 (by decide) (.t .z4) rfl) (lG .z2 h8 (dLoad .z agg_3 (.t .z) rfl) (lCallG rfl .z3 h8 fok_144 (.c (.t .z2) (.c (.t .z) .n)) (caret_open_c K a0 _ b0_0 v0_1) (.c .z1 (.c .z1 .n)) rfl rfl fun o9 x10 h11 => ?_)))
    refine lR (dPickT (.t .z4) h8 (.t .z)) (lM .z (lCase (fun h12 => ?_) (fun h12 => ?_)))
    ·refine lG .z h12 (dMove (.t .z10)) (lG .z1 h12 (dFld fld_193_0 (by decide) (.t .z10) rfl) (lG .z2 h12 (dLoad .z2 agg_3 (.t .z) rfl) (lG .z3 h12 (dNe (.t .z2) (.t .z)) (lR (dPickT (.t .z4) h12 (.t .z)) (lM .z (lCase (fun h13 => ?_) (fun h13 => ?_)))))))
     ·refine lG .z (decide_eq_true h13) (dMove (.t .z16)) (lG .z1 (decide_eq_true h13) (dMove (.t .z19)) (lG .z2 (decide_eq_true h13) (dFld fld_193_0 (by decide) (.t .z17) rfl) (lG .z3 (decide_eq_true h13) (dLoad .z2 agg_3 (.t .z) rfl) ?_)))
      refine lCallG rfl .z4 (decide_eq_true h13) fok_145 (.c (.t .z2) (.c (.t .z) (.c (.c rfl) .n))) (caret_by_c a0 _ 1 b0_0 v0_1) (.c .z (.c .z .n)) rfl rfl fun o14 x15 h16 => ?_
      exact lG .z5 (decide_eq_true h13) (dNe (.t .z4) (.t .z)) (lR (dPickT (.t .z6) (decide_eq_true h13) (.t .z)) (lKeep (.k (.d (.d (.d (.d (.d (.d (.d (.d (.d (.d (.d (.d (.d (.d (.d (.d (.d (.d (.d (.d (.d (.k (.k (.k (.k .n)))))))))))))))))))))))))) (lNil (xJoin (decide (o1 ≠ o14)) () (.c .z (.c .z1 (.c .z2 (.c .z3 (.c .z4 .n))))) (.c .z (.c .z (.c .z .nil)))))))
     ·refine lPass rfl .z (nbT (decide_eq_false h13)) rfl (lPass rfl .z (nbT (decide_eq_false h13)) rfl (lPass rfl .z (nbT (decide_eq_false h13)) rfl (lPass rfl .z (nbT (decide_eq_false h13)) rfl (lPass rfl .z (nbT (decide_eq_false h13)) rfl (lPass rfl .z (nbT (decide_eq_false h13)) rfl (lR (dPickF (.t .z) (decide_eq_false h13) (.c rfl)) (lKeep (.k (.d (.d (.d (.d (.d (.d (.d (.d (.d (.d (.d (.d (.d (.d (.d (.k (.k (.k (.k .n)))))))))))))))))))) (lNil ?_))))))))
      exact xJoin false () (.c .z (.c .z1 (.c .z2 (.c .z3 (.c .z4 .n))))) (.c .z (.c .z (.c .z .nil)))
    ·refine lPass rfl .z (nbT (Bool.eq_false_iff.mpr h12)) rfl (lPass rfl .z (nbT (Bool.eq_false_iff.mpr h12)) rfl (lPass rfl .z (nbT (Bool.eq_false_iff.mpr h12)) rfl (lPass rfl .z (nbT (Bool.eq_false_iff.mpr h12)) rfl (lR (dPickF (.t .z) (Bool.eq_false_iff.mpr h12) (.c rfl)) (lM .z (lPass rfl .z (nbT rfl) rfl (lPass rfl .z (nbT rfl) rfl (lPass rfl .z (nbT rfl) rfl ?_))))))))
     exact lPass rfl .z (nbT rfl) rfl (lPass rfl .z (nbT rfl) rfl (lPass rfl .z (nbT rfl) rfl (lR (dPickF (.t .z) rfl (.c rfl)) (lKeep (.k (.d (.d (.d (.d (.d (.d (.d (.d (.d (.d (.d (.k (.k (.k (.k .n)))))))))))))))) (lNil (xJoin false () (.c .z (.c .z1 (.c .z2 (.c .z3 (.c .z4 .n))))) (.c .z (.c .z (.c .z .nil)))))))))
   ·refine lPass rfl .z (nbT (Bool.eq_false_iff.mpr h8)) rfl (lPass rfl .z (nbT (Bool.eq_false_iff.mpr h8)) rfl (lPass rfl .z (nbT (Bool.eq_false_iff.mpr h8)) rfl (lPass rfl .z (nbT (Bool.eq_false_iff.mpr h8)) rfl (lR (dPickF (.t .z) (Bool.eq_false_iff.mpr h8) (.c rfl)) (lM .z (lPass rfl .z (nbT rfl) rfl (lPass rfl .z (nbT rfl) rfl (lPass rfl .z (nbT rfl) rfl ?_))))))))
    refine lPass rfl .z (nbT rfl) rfl (lR (dPickF (.t .z) rfl (.c rfl)) (lM .z (lPass rfl .z (nbT rfl) rfl (lPass rfl .z (nbT rfl) rfl (lPass rfl .z (nbT rfl) rfl (lPass rfl .z (nbT rfl) rfl (lPass rfl .z (nbT rfl) rfl (lPass rfl .z (nbT rfl) rfl ?_))))))))
    exact lR (dPickF (.t .z) rfl (.c rfl)) (lKeep (.k (.d (.d (.d (.d (.d (.d (.d (.k (.k (.k (.k .n)))))))))))) (lNil (xJoin false () (.c .z (.c .z1 (.c .z2 (.c .z3 (.c .z4 .n))))) (.c .z1 (.c .z1 (.c .z .nil))))))
  ·refine xCode (cCondB (.t .z) (fun h19 => ?_) (fun h19 => ?_))
   ·refine cSeq (cRegion (lM .z4 (lM .z5 (lR (dFld fld_193_0 (by decide) (.t .z3) rfl) (lR (dLoad .z2 agg_3 (.t .z) rfl) (lCall fok_145 (.c (.t .z2) (.c (.t .z) (.c (.c rfl) .n))) (caret_by_c a0 _ 1 b0_0 v0_1) (.c .z (.c .z .n)) rfl rfl fun o20 x21 h22 => ?_))))))
    refine lCall fok_141 (.c (.t .z4) (.c (.t .z) .n)) (caret_to_c a0 o20 b0_0 v0_1) (.c .z (.c .z .n)) rfl rfl fun o23 x24 h25 => ?_
    exact lAK .z (.k (.k (.k (.k (.k (.k (.k (.k (.k (.d (Keep.refl _))))))))))) (lKeep (.k (.d (.d (.d (.d (.d (.d (.d (.d (.k (.k .n))))))))))) (lNil (xCode (cRet (rLeave hD (lvRet (rs := [.tmp 2]) rfl (.t .z .n) () rfl (.c .z (.c .z .nil))))))))
   ·refine cSkip (xCode (cSeq (cRegion (lM .z4 (lM .z5 (lM .z6 (lM .z5 (lCall fok_145 (.c (.t .z1) (.c (.t .z) (.c (.c rfl) .n))) (caret_by_c a0 o1 _ b0_0 v0_1) (.c .z (.c .z .n)) rfl rfl fun o26 x27 h28 => ?_))))))))
    refine lCall fok_142 (.c (.t .z3) (.c (.t .z) (.c (.c rfl) .n))) (caret_seek_c K a0 o26 _ b0_0 v0_1) (.c .z (.c .z .n)) rfl rfl fun o29 x30 h31 => ?_
    refine lCall fok_141 (.c (.t .z5) (.c (.t .z) .n)) (caret_to_c a0 o29 b0_0 v0_1) (.c .z (.c .z .n)) rfl rfl fun o32 x33 h34 => ?_
    exact lAK .z (.k (.k (.k (.k (.k (.k (.k (.k (.k (.k (.d (Keep.refl _)))))))))))) (lKeep (.k .n) (lNil (xCode (cRet (rLeave hD (lvRet (rs := [.tmp 2]) rfl (.t .z .n) () rfl (.c .z (.c .z .nil))))))))

-- greenscreen/field.Open
def field_Open_m (K : Nat) (a0 : plane_Plane) (a1 : Int) : Option (Bool) := (field_Of_m K a0 a1).bind fun o1 => (if (!o1.2) = true then ((if a1 ≥ 0 then (plane_Plane_Len_m a0).bind fun o7 => some (decide (a1 < o7)) else some false)).bind fun (s10 : Bool) => some s10 else (if o1.1.f_Start ≠ a1 then (attr_Protected_m o1.1.f_Attr).bind fun o13 => some (!o13) else some false))
theorem field_Open_c (K : Nat) (a0 : plane_Plane) (a1 : Int) (b0_0 : Nat) (v0_1 : Value) : Con Tryz.prog 131 #[.pointer (some ⟨b0_0, 0, none⟩), .int .i64 a1] [.blk b0_0 [.int .i64 a0.f_size.f_Rows, .int .i64 a0.f_size.f_Cols, v0_1, .int .i64 a0.f_cursor] 126, .own v0_1 80 k_api_Cell a0.f_cells] (field_Open_m K a0 a1) (fun (o : Bool) (x : Unit) => .bool o) (fun (o : Bool) (x : Unit) => [.blk b0_0 [.int .i64 a0.f_size.f_Rows, .int .i64 a0.f_size.f_Cols, v0_1, .int .i64 a0.f_cursor] 126, .own v0_1 80 k_api_Cell a0.f_cells]) := by
  unfold field_Open_m
  refine con (args := [.pointer (some ⟨b0_0, 0, none⟩), .int .i64 a1]) Tryz.func131 rfl 33 rfl (.c (.c .n)) rfl fun c hD hrn => ?_
  refine cSeq (cRegion (lR (dAssign (.c rfl)) (lNil (xCode (cSeq (cRegion (lM .z1 (lM .z3 ?_))))))))
  refine lCall fok_143 (.c (.t .z1) (.c (.t .z) .n)) (field_Of_c K a0 a1 b0_0 v0_1) (.c .z (.c .z .n)) rfl rfl fun o1 x2 h3 => ?_
  refine lM .z (lR (dExtract (.t .z) rfl) (lR (dExtract (.t .z1) rfl) (lCh (cAlloc (cs := [.int .i64 0, .int .i64 0, vB 0]) zer_193 rfl) rfl rfl fun b4 => ?_)))
  refine lChU (uStoreA (us := [.int .i64 o1.1.f_Start, .int .i64 o1.1.f_Len, vB o1.1.f_Attr]) (cs' := [.int .i64 o1.1.f_Start, .int .i64 o1.1.f_Len, vB o1.1.f_Attr]) .z siz_193 rfl (by intro u hu; simp only [List.mem_cons, List.not_mem_nil, or_false] at hu; rcases hu with rfl | rfl | rfl <;> first | rfl | assumption) rfl (by simp) (.t .z) (.t .z2)) (lA .z1 (lKeep (.k (.k (.d (.d (.d (.d (.d (.d (.k (.k (.k .n))))))))))) (lNil (xCode (cSeq (cSeq (cRegion (lM .z ?_))))))))
  refine lR (dNot (.t .z)) (lKeep (.k (.d (.d (.k (.k (.k (.k .n))))))) (lNil (xCode (cCondB (.t .z) (fun h5 => ?_) (fun h5 => ?_)))))
  ·refine cSeq (cJoin (S := Bool) (X := Unit) (fun (s : Bool) (x : Unit) => [(4, .bool s), (5, .pointer (some ⟨b4, 0, none⟩)), (1, .int .i64 a1)]) (fun (s : Bool) (x : Unit) => [.blk b0_0 [.int .i64 a0.f_size.f_Rows, .int .i64 a0.f_size.f_Cols, v0_1, .int .i64 a0.f_cursor] 126, .own v0_1 80 k_api_Cell a0.f_cells, .blk b4 [.int .i64 o1.1.f_Start, .int .i64 o1.1.f_Len, vB o1.1.f_Attr] 193]) ?_ (fun s10 x11 => ?_))
   ·refine cRegion (lM .z4 (lR (dGe (.t .z) (.c rfl)) (lM .z (lCase (fun h6 => ?_) (fun h6 => ?_)))))
    ·refine lG .z (decide_eq_true h6) (dMove (.t .z7)) (lG .z1 (decide_eq_true h6) (dMove (.t .z7)) (lCallG rfl .z2 (decide_eq_true h6) fok_66 (.c (.t .z) .n) (plane_Plane_Len_c a0 b0_0 v0_1) (.c .z1 (.c .z1 .n)) rfl rfl fun o7 x8 h9 => ?_))
     exact lG .z3 (decide_eq_true h6) (dLt (.t .z2) (.t .z)) (lR (dPickT (.t .z4) (decide_eq_true h6) (.t .z)) (lAK .z (.k (.k (.k (.k (.k (.k (.k (.k (.k (.k (.d (Keep.refl _)))))))))))) (lKeep (.k (.d (.d (.d (.d (.d (.d (.d (.d (.d (.k (.d (.k .n))))))))))))) (lNil (xJoin (decide (a1 < o7)) () (.c .z (.c .z1 (.c .z2 .n))) (.c .z (.c .z (.c .z .nil))))))))
    ·exact lPass rfl .z (nbT (decide_eq_false h6)) rfl (lPass rfl .z (nbT (decide_eq_false h6)) rfl (lPass rfl .z (nbT (decide_eq_false h6)) rfl (lPass rfl .z (nbT (decide_eq_false h6)) rfl (lR (dPickF (.t .z) (decide_eq_false h6) (.c rfl)) (lAK .z (.k (.k (.k (.k (.k (.k (.d (Keep.refl _)))))))) (lKeep (.k (.d (.d (.d (.d (.d (.k (.d (.k .n))))))))) (lNil (xJoin false () (.c .z (.c .z1 (.c .z2 .n))) (.c .z1 (.c .z1 (.c .z .nil)))))))))))
   ·exact xCode (cRet (rLeave hD (lvRet (rs := [.tmp 4]) rfl (.t .z .n) () rfl (.c .z (.c .z .nil)))))
  ·refine cSkip (xCode (cSeq (cRegion (lR (dFld fld_193_0 (by decide) (.t .z1) rfl) (lR (dLoad .z agg_3 (.t .z) rfl) (lM .z6 (lR (dNe (.t .z1) (.t .z)) (lM .z ?_))))))))
   refine lCase (fun h12 => ?_) (fun h12 => ?_)
   ·refine lG .z (decide_eq_true h12) (dFld fld_193_2 (by decide) (.t .z6) rfl) (lG .z1 (decide_eq_true h12) (dLoad .z agg_5 (.t .z) rfl) (lCallG rfl .z2 (decide_eq_true h12) fok_133 (.c (.t .z) .n) (attr_Protected_c _) .n rfl rfl fun o13 x14 h15 => ?_))
    exact lG .z3 (decide_eq_true h12) (dNot (.t .z)) (lR (dPickT (.t .z4) (decide_eq_true h12) (.t .z)) (lAK .z (.k (.k (.k (.k (.k (.k (.k (.k (.k (.k (.k (.k (.d (Keep.refl _)))))))))))))) (lKeep (.k .n) (lNil (xCode (cRet (rLeave hD (lvRet (rs := [.tmp 4]) rfl (.t .z .n) () rfl (.c .z1 (.c .z1 .nil))))))))))
   ·refine lPass rfl .z (nbT (decide_eq_false h12)) rfl (lPass rfl .z (nbT (decide_eq_false h12)) rfl (lPass rfl .z (nbT (decide_eq_false h12)) rfl (lPass rfl .z (nbT (decide_eq_false h12)) rfl (lR (dPickF (.t .z) (decide_eq_false h12) (.c rfl)) (lAK .z (.k (.k (.k (.k (.k (.k (.k (.k (.d (Keep.refl _)))))))))) (lKeep (.k .n) (lNil (xCode ?_))))))))
    exact cRet (rLeave hD (lvRet (rs := [.tmp 4]) rfl (.t .z .n) () rfl (.c .z1 (.c .z1 .nil))))

-- greenscreen/addr.Split
def addr_Split_m (a0 : api_Size) (a1 : Int) : Option (Int × Int × Bool) := ((if a1 < 0 then some true else (addr_Cells_m a0).bind fun o3 => some (decide (a1 ≥ o3)))).bind fun (s6 : Bool) => (if s6 = true then some (0, 0, false) else (if a0.f_Cols ≠ 0 then (if a0.f_Cols ≠ 0 then some (w64 (Int.tdiv a1 a0.f_Cols), Int.tmod a1 a0.f_Cols, true) else none) else none))
theorem addr_Split_c (a0 : api_Size) (a1 : Int) : Con Tryz.prog 146 #[.agg #[.int .i64 a0.f_Rows, .int .i64 a0.f_Cols], .int .i64 a1] [] (addr_Split_m a0 a1) (fun (o : Int × Int × Bool) (x : Unit) => .tuple #[.int .i64 o.1, .int .i64 o.2.1, .bool o.2.2]) (fun (o : Int × Int × Bool) (x : Unit) => []) := by
  unfold addr_Split_m
  refine con (args := [.agg #[.int .i64 a0.f_Rows, .int .i64 a0.f_Cols], .int .i64 a1]) Tryz.func146 rfl 23 rfl (.c (.c .n)) rfl fun c hD hrn => ?_
  refine cSeq (cRegion (lCh (cBox (cs := [.int .i64 a0.f_Rows, .int .i64 a0.f_Cols]) (.t .z) rfl) rfl rfl fun b1 => ?_))
  refine lR (dAssign (.c rfl)) (lR (dAssign (.c rfl)) (lR (dAssign (.c rfl)) (lKeep (.k (.k (.k (.k (.d (.k .n)))))) (lNil (xCode (cSeq (cSeq (cJoin (S := Bool) (X := Unit) (fun (s : Bool) (x : Unit) => [(14, .bool s), (6, .bool false), (5, .int .i64 0), (4, .int .i64 0), (2, .pointer (some ⟨b1, 0, none⟩)), (1, .int .i64 a1)]) (fun (s : Bool) (x : Unit) => [.blk b1 [.int .i64 a0.f_Rows, .int .i64 a0.f_Cols] 33]) ?_ (fun s6 x7 => ?_)))))))))
  ·refine cRegion (lM .z4 (lR (dLt (.t .z) (.c rfl)) (lM .z (lCase (fun h2 => ?_) (fun h2 => ?_)))))
   ·exact lPass rfl .z (nbF (decide_eq_true h2)) rfl (lPass rfl .z (nbF (decide_eq_true h2)) rfl (lPass rfl .z (nbF (decide_eq_true h2)) rfl (lPass rfl .z (nbF (decide_eq_true h2)) rfl (lR (dPickT (.t .z) (decide_eq_true h2) (.c rfl)) (lKeep (.k (.d (.d (.d (.k (.k (.k (.k (.k .n))))))))) (lNil (xJoin true () (.c .z (.c .z1 (.c .z2 (.c .z3 (.c .z4 (.c .z5 .n)))))) (.c .z .nil))))))))
   ·refine lG .z (decide_eq_false h2) (dMove (.t .z7)) (lG .z1 (decide_eq_false h2) (dLoadA (us := [.int .i64 a0.f_Rows, .int .i64 a0.f_Cols]) .z agg_33 siz_33 rfl (.t .z7) rfl) (lCallG rfl .z2 (decide_eq_false h2) fok_73 (.c (.t .z) .n) (addr_Cells_c a0) .n rfl rfl fun o3 x4 h5 => ?_))
    exact lG .z3 (decide_eq_false h2) (dGe (.t .z2) (.t .z)) (lR (dPickF (.t .z4) (decide_eq_false h2) (.t .z)) (lKeep (.k (.d (.d (.d (.d (.d (.d (.d (.k (.k (.k (.k (.k .n))))))))))))) (lNil (xJoin (decide (a1 ≥ o3)) () (.c .z (.c .z1 (.c .z2 (.c .z3 (.c .z4 (.c .z5 .n)))))) (.c .z .nil)))))
  ·refine xCode (cCondB (.t .z) (fun h8 => ?_) (fun h8 => ?_))
   ·refine cSeq (cRegion (lRdK (dAssign (.c rfl)) (.k (.k (.k (.d (Keep.refl _))))) rfl rfl (lRdK (dAssign (.c rfl)) (.k (.k (.k (.d (Keep.refl _))))) rfl rfl (lRdK (dAssign (.c rfl)) (.k (.k (.k (.d (Keep.refl _))))) rfl rfl (lKeep (.k (.k (.k (.d (.k (.k .n)))))) (lNil (xCode (cRet ?_))))))))
    exact rLeave hD (lvRet (rs := [.tmp 4, .tmp 5, .tmp 6]) rfl (.t .z2 (.t .z1 (.t .z .n))) () rfl .nil)
   ·refine cSkip (xCode (cSeq (cRegionM [] [(0, .early), (1, .early), (2, .early), (3, .early), (4, .early), (5, .early), (6, .early), (7, .early), (8, .early), (9, .early), (10, .early)] mixed (by kernel_rfl) (.c .z .nil) (.c .n) (mRd rfl rfl (fun _ _ _ => dMove (.t .z5)) rfl rfl ?_))))
    refine mRd rfl rfl (fun _ _ _ => dFld fld_33_1 (by decide) (.t .z5) rfl) rfl rfl ?_
    refine mRd rfl rfl (fun _ _ _ => dLoad .z agg_3 (.t .z) rfl) rfl rfl ?_
    refine mGuard fun h9 => ?_
    refine mRd rfl rfl (fun _ _ _ => dQuoI (.t .z2) (.t .z) h9) rfl rfl ?_
    refine mRd rfl rfl (fun _ _ _ => dMove (.t .z9)) rfl rfl ?_
    refine mRd rfl rfl (fun _ _ _ => dFld fld_33_1 (by decide) (.t .z9) rfl) rfl rfl ?_
    refine mRd rfl rfl (fun _ _ _ => dLoad .z agg_3 (.t .z) rfl) rfl rfl ?_
    refine mGuard fun h10 => ?_
    refine mRd rfl rfl (fun _ _ _ => dRem (.t .z2) (.t .z) h10) rfl rfl ?_
    refine mRdK rfl rfl (fun _ _ _ => dAssign (.t .z4)) (.k (.k (.k (.k (.k (.k (.k (.k (.k (.k (.k (.d (Keep.refl _))))))))))))) rfl rfl ?_
    refine mRdK rfl rfl (fun _ _ _ => dAssign (.t .z1)) (.k (.k (.k (.k (.k (.k (.k (.k (.k (.k (.k (.d (Keep.refl _))))))))))))) rfl rfl ?_
    refine mRdK rfl rfl (fun _ _ _ => dAssign (.c rfl)) (.k (.k (.k (.k (.k (.k (.k (.k (.k (.k (.k (.d (Keep.refl _))))))))))))) rfl rfl ?_
    exact mKeep (.k (.k (.k .n))) (mNil (xCode (cRet (rLeave hD (lvRet (rs := [.tmp 4, .tmp 5, .tmp 6]) rfl (.t .z2 (.t .z1 (.t .z .n))) () rfl .nil)))))

-- greenscreen/caret.Newline
def caret_Newline_l1 (K : Nat) (a0 : plane_Plane) (o13 : (Int)) (o16 : (Int)) : Nat → (Int) → Option (Sum (Unit) (plane_Plane × Int))
  | 0, _ => none
  | n + 1, s19 => (if s19 < o16 then (caret_by_m a0 o13 s19).bind fun o25 => (field_Open_m K a0 o25).bind fun o28 => (if o28 = true then (caret_to_m a0 o25).bind fun o32 => some (Sum.inr (o32.1, o32.2)) else (caret_Newline_l1 K a0 o13 o16 n) (w64 (s19 + 1))) else some (Sum.inl ()))
def caret_Newline_m (K : Nat) (a0 : plane_Plane) : Option (plane_Plane × Int) := (plane_Plane_Size_m a0).bind fun o1 => (plane_Plane_Cursor_m a0).bind fun o4 => (addr_Split_m o1 o4).bind fun o7 => (plane_Plane_Size_m a0).bind fun o10 => (caret_by_m a0 0 (w64 ((w64 (o7.1 + 1)) * o10.f_Cols))).bind fun o13 => (plane_Plane_Len_m a0).bind fun o16 => (caret_Newline_l1 K a0 o13 o16 K 0).bind (onS fun (s35 : Unit) => (caret_to_m a0 0).bind fun o37 => some (o37.1, o37.2))
theorem caret_Newline_c (K : Nat) (a0 : plane_Plane) (b0_0 : Nat) (v0_1 : Value) : Con Tryz.prog 97 #[.pointer (some ⟨b0_0, 0, none⟩)] [.blk b0_0 [.int .i64 a0.f_size.f_Rows, .int .i64 a0.f_size.f_Cols, v0_1, .int .i64 a0.f_cursor] 126, .own v0_1 80 k_api_Cell a0.f_cells] (caret_Newline_m K a0) (fun (o : plane_Plane × Int) (x : Unit) => .int .i64 o.2) (fun (o : plane_Plane × Int) (x : Unit) => [.blk b0_0 [.int .i64 o.1.f_size.f_Rows, .int .i64 o.1.f_size.f_Cols, v0_1, .int .i64 o.1.f_cursor] 126, .own v0_1 80 k_api_Cell o.1.f_cells]) := by
  unfold caret_Newline_m
  refine con (args := [.pointer (some ⟨b0_0, 0, none⟩)]) Tryz.func97 rfl 44 rfl (.c .n) rfl fun c hD hrn => ?_
  refine cSeq (cRegion (lR (dAssign (.c rfl)) (lNil (xCode (cSeq (cRegion (lM .z1 (lCall fok_147 (.c (.t .z) .n) (plane_Plane_Size_c a0 b0_0 v0_1) (.c .z (.c .z .n)) rfl rfl fun o1 x2 h3 => ?_))))))))
  refine lM .z3 (lCall fok_68 (.c (.t .z) .n) (plane_Plane_Cursor_c a0 b0_0 v0_1) (.c .z (.c .z .n)) rfl rfl fun o4 x5 h6 => ?_)
  refine lCall fok_146 (.c (.t .z2) (.c (.t .z) .n)) (addr_Split_c o1 o4) .n rfl rfl fun o7 x8 h9 => ?_
  refine lM .z (lR (dExtract (.t .z) rfl) (lR (dExtract (.t .z1) rfl) (lR (dExtract (.t .z2) rfl) (lA .z2 (lRdN (dAssign (.t .z2)) rfl (lRdN (dAssign (.t .z1)) rfl (lKeep (.k (.d (.d (.d (.d (.d (.d (.d (.d (.d (.k (.k .n)))))))))))) (lNil ?_))))))))
  refine xCode (cSeq (cRegion (lM .z2 (lM .z1 (lR (dAddI (.t .z) (.c rfl)) (lM .z5 (lCall fok_147 (.c (.t .z) .n) (plane_Plane_Size_c a0 b0_0 v0_1) (.c .z (.c .z .n)) rfl rfl fun o10 x11 h12 => ?_)))))))
  refine lR (dField (u := .int .i64 o10.f_Cols) fld_33_1 (.t .z) rfl) (lR (dMulI (.t .z3) (.t .z)) (lCall fok_145 (.c (.t .z6) (.c (.c rfl) (.c (.t .z) .n))) (caret_by_c a0 0 _ b0_0 v0_1) (.c .z (.c .z .n)) rfl rfl fun o13 x14 h15 => ?_))
  refine lA .z (lKeep (.k (.d (.d (.d (.d (.d (.d (.d (.d (.d (.k (.k .n)))))))))))) (lNil (xCode (cSeq (cSeq (cRegion (lM .z2 (lCall fok_66 (.c (.t .z) .n) (plane_Plane_Len_c a0 b0_0 v0_1) (.c .z (.c .z .n)) rfl rfl fun o16 x17 h18 => ?_))))))))
  refine lR (dMove (.c rfl)) (lKeep (.k (.k (.d (.k (.k (.k .n)))))) (lNil (xCode (cLoopR (S := Int) (X := Unit) (S' := Unit) (X' := Unit) (caret_Newline_l1 K a0 o13 o16) (fun (s : Int) (x : Unit) => [(28, .int .i64 s), (27, .int .i64 o16), (6, .int .i64 o13), (2, .int .i64 0), (0, .pointer (some ⟨b0_0, 0, none⟩))]) (fun (s : Int) (x : Unit) => [.blk b0_0 [.int .i64 a0.f_size.f_Rows, .int .i64 a0.f_size.f_Cols, v0_1, .int .i64 a0.f_cursor] 126, .own v0_1 80 k_api_Cell a0.f_cells]) (fun (s : Unit) (x : Unit) => [(2, .int .i64 0), (0, .pointer (some ⟨b0_0, 0, none⟩))]) (fun (s : Unit) (x : Unit) => [.blk b0_0 [.int .i64 a0.f_size.f_Rows, .int .i64 a0.f_size.f_Cols, v0_1, .int .i64 a0.f_cursor] 126, .own v0_1 80 k_api_Cell a0.f_cells]) K 0 () (.c .z (.c .z1 (.c .z2 (.c .z3 (.c .z4 .n))))) (.c .z (.c .z .nil)) (fun _ => rfl) (fun n21 I22 h23 s19 x20 => ?_) (fun s35 x36 => ?_)))))
  ·rw [caret_Newline_l1]
   refine cSeq (cRegion (lR (dLt (.t .z) (.t .z1)) (lNil (xCode (cSeq (cCond (.t .z) (fun h24 => ?_) (fun h24 => ?_)))))))
   ·refine cSkip (xCode (cSeq (cBlock (cSeq (cRegion (lM .z1 (lA .z (lNil ?_))))))))
    refine xCode (cSeq (cRegion (lM .z7 (lM .z6 (lM .z2 (lCall fok_145 (.c (.t .z2) (.c (.t .z1) (.c (.t .z) .n))) (caret_by_c a0 o13 s19 b0_0 v0_1) (.c .z (.c .z .n)) rfl rfl fun o25 x26 h27 => ?_))))))
    refine lA .z (lNil (xCode (cSeq (cRegion (lM .z12 (lM .z1 (lCall fok_131 (.c (.t .z1) (.c (.t .z) .n)) (field_Open_c K a0 o25 b0_0 v0_1) (.c .z (.c .z .n)) rfl rfl fun o28 x29 h30 => ?_)))))))
    refine lNil (xCode (cCondB (.t .z) (fun h31 => ?_) (fun h31 => ?_)))
    ·refine cSeq (cRegion (lM .z15 (lM .z4 (lCall fok_141 (.c (.t .z1) (.c (.t .z) .n)) (caret_to_c a0 o25 b0_0 v0_1) (.c .z (.c .z .n)) rfl rfl fun o32 x33 h34 => ?_))))
     exact lAK .z (.k (.k (.k (.k (.k (.k (.k (.k (.k (.k (.k (.k (.k (.k (.k (.k (.k (.d (Keep.refl _))))))))))))))))))) (lNil (xCode (cRet (rInner (rLeave hD (lvRet (rs := [.tmp 2]) rfl (.t .z .n) () rfl (.c .z (.c .z .nil))))))))
    ·exact cSkip (xBlock (xCode (cRegion (lR (dAddI (.t .z11) (.c rfl)) (lRdK (dMove (.t .z)) (.k (.k (.k (.k (.k (.k (.k (.k (.k (.k (.k (.k (.d (Keep.refl _)))))))))))))) rfl rfl (lNil (xRound h23 (w64 (s19 + 1)) () (.c .z (.c .z13 (.c .z14 (.c .z15 (.c .z16 .n))))) (.c .z (.c .z .nil)))))))))
   ·exact cExit (xOver (xOverF (xBreakR () () (.c .z4 (.c .z5 .n)) (.c .z (.c .z .nil)))))
  ·refine xCode (cSeq (cRegion (lM .z1 (lCall fok_141 (.c (.t .z) (.c (.c rfl) .n)) (caret_to_c a0 0 b0_0 v0_1) (.c .z (.c .z .n)) rfl rfl fun o37 x38 h39 => ?_))))
   exact lAK .z (.k (.k (.d (Keep.refl _)))) (lKeep (.k .n) (lNil (xCode (cRet (rLeave hD (lvRet (rs := [.tmp 2]) rfl (.t .z .n) () rfl (.c .z (.c .z .nil))))))))

-- greenscreen/field.All
def field_All_m (a0 : plane_Plane) : Option (Unit) := some ()
theorem field_All_c (a0 : plane_Plane) (b0_0 : Nat) (v0_1 : Value) : Con Tryz.prog 125 #[.pointer (some ⟨b0_0, 0, none⟩)] [.blk b0_0 [.int .i64 a0.f_size.f_Rows, .int .i64 a0.f_size.f_Cols, v0_1, .int .i64 a0.f_cursor] 126, .own v0_1 80 k_api_Cell a0.f_cells] (field_All_m a0) (fun (o : Unit) (x : Nat) => .func (.func 173) #[] #[.pointer (some ⟨x, 0, none⟩)]) (fun (o : Unit) (x : Nat) => [.blk b0_0 [.int .i64 a0.f_size.f_Rows, .int .i64 a0.f_size.f_Cols, v0_1, .int .i64 a0.f_cursor] 126, .own v0_1 80 k_api_Cell a0.f_cells, .blk x [.pointer (some ⟨b0_0, 0, none⟩)] 70]) := by
  unfold field_All_m
  refine con (args := [.pointer (some ⟨b0_0, 0, none⟩)]) Tryz.func125 rfl 4 rfl (.c .n) rfl fun c hD hrn => ?_
  refine cSeq (cRegion (lCh (cBox (cs := [.pointer (some ⟨b0_0, 0, none⟩)]) (.t .z) rfl) rfl rfl fun b1 => ?_))
  refine lR (dAssign (.c rfl)) (lKeep (.k (.k .n)) (lNil (xCode (cSeq (cRegion (lR (dMakeFuncL (vs := [.pointer (some ⟨b1, 0, none⟩)]) (.c (.t .z1) .n)) (lAK .z (.k (.d (Keep.refl _))) (lKeep (.k .n) ?_))))))))
  exact lNil (xCode (cRet (rLeave hD (lvRet (rs := [.tmp 2]) rfl (.t .z .n) b1 rfl (.c .z1 (.c .z1 (.c .z .nil)))))))

end Go.Proofs.YtecipnjloenndaaGreatDoor.G
