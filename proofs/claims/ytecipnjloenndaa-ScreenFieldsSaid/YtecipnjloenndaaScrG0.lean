/-
The walk of the seat, by program: each function's model, and its contract. Part 0.
-/
import Derived.Test.YtecipnjloenndaaSXm
import Derived.Test.YtecipnjloenndaaProg
set_option linter.unusedVariables false
set_option linter.unusedSimpArgs false
set_option maxRecDepth 20000
set_option maxHeartbeats 2000000
namespace Go.Proofs.Ytecipnjloenndaa.G
open Go Go.RowKit Go.Proofs.Ytecipnjloenndaa.SX
structure command_form where
  f_kind : UInt8
  f_short : UInt8
  f_name : (List UInt8)
deriving DecidableEq, Inhabited

theorem struct_ext_command_form (x y : command_form) : x = y ↔ x.f_kind = y.f_kind ∧ x.f_short = y.f_short ∧ x.f_name = y.f_name := by cases x; cases y; simp
def k_command_form : Kind command_form := Kind.flat 3 (fun x => [vB x.f_kind, vB x.f_short, vS x.f_name]) (fun _ => rfl) fun x c h => by
  simp only [List.mem_cons, List.not_mem_nil, or_false] at h
  rcases h with rfl | rfl | rfl <;> rfl
structure order_parser where
  f_b : (List UInt8)
  f_at : Int
deriving DecidableEq, Inhabited

theorem struct_ext_order_parser (x y : order_parser) : x = y ↔ x.f_b = y.f_b ∧ x.f_at = y.f_at := by cases x; cases y; simp
def k_order_parser : Kind order_parser where
  n := 2
  rd R cs x := ∃ v0 : Value, cs = [v0, .int .i64 x.f_at] ∧ (kSl kB).rd R [v0] x.f_b
  mono {R R' cs x} hR h := by
    obtain ⟨v0, rfl, h0⟩ := h
    exact ⟨v0, rfl, Kind.mono _ hR h0⟩
  len {R cs x} h := by
    obtain ⟨v0, rfl, _⟩ := h
    rfl
  one {R cs x} h := by
    obtain ⟨v0, rfl, h0⟩ := h
    intro c hc
    simp only [List.mem_cons, List.not_mem_nil, or_false] at hc
    rcases hc with rfl | rfl
    · exact Kind.one _ h0 _ (by simp)
    · rfl
theorem open_order_parser (x : order_parser) : ∀ R cs, k_order_parser.rd R cs x → ∃ z : Value, cs = [z, .int .i64 x.f_at] ∧ sat R [.ro (kSl kB) [z] x.f_b] PH.emp := by
  intro R cs h
  obtain ⟨v0, rfl, h0⟩ := h
  exact ⟨v0, rfl, (satRo h0 satNil)⟩

structure api_Pair where
  f_Type : UInt8
  f_Value : UInt8
deriving DecidableEq, Inhabited

theorem struct_ext_api_Pair (x y : api_Pair) : x = y ↔ x.f_Type = y.f_Type ∧ x.f_Value = y.f_Value := by cases x; cases y; simp
def k_api_Pair : Kind api_Pair := Kind.flat 2 (fun x => [vB x.f_Type, vB x.f_Value]) (fun _ => rfl) fun x c h => by
  simp only [List.mem_cons, List.not_mem_nil, or_false] at h
  rcases h with rfl | rfl <;> rfl
structure api_Order where
  f_Kind : UInt8
  f_Addr : Int
  f_Byte : UInt8
  f_GE : Bool
  f_Pairs : (List api_Pair)
  f_Data : (List UInt8)
deriving DecidableEq, Inhabited

theorem struct_ext_api_Order (x y : api_Order) : x = y ↔ x.f_Kind = y.f_Kind ∧ x.f_Addr = y.f_Addr ∧ x.f_Byte = y.f_Byte ∧ x.f_GE = y.f_GE ∧ x.f_Pairs = y.f_Pairs ∧ x.f_Data = y.f_Data := by cases x; cases y; simp
def k_api_Order : Kind api_Order where
  n := 6
  rd R cs x := ∃ v4 v5 : Value, cs = [vB x.f_Kind, .int .i64 x.f_Addr, vB x.f_Byte, .bool x.f_GE, v4, v5] ∧ (kSl k_api_Pair).rd R [v4] x.f_Pairs ∧ (kSl kB).rd R [v5] x.f_Data
  mono {R R' cs x} hR h := by
    obtain ⟨v4, v5, rfl, h4, h5⟩ := h
    exact ⟨v4, v5, rfl, Kind.mono _ hR h4, Kind.mono _ hR h5⟩
  len {R cs x} h := by
    obtain ⟨v4, v5, rfl, _⟩ := h
    rfl
  one {R cs x} h := by
    obtain ⟨v4, v5, rfl, h4, h5⟩ := h
    intro c hc
    simp only [List.mem_cons, List.not_mem_nil, or_false] at hc
    rcases hc with rfl | rfl | rfl | rfl | rfl | rfl
    · rfl
    · rfl
    · rfl
    · rfl
    · exact Kind.one _ h4 _ (by simp)
    · exact Kind.one _ h5 _ (by simp)
theorem open_api_Order (x : api_Order) : ∀ R cs, k_api_Order.rd R cs x → ∃ z : Value × Value, cs = [vB x.f_Kind, .int .i64 x.f_Addr, vB x.f_Byte, .bool x.f_GE, z.1, z.2] ∧ sat R [.ro (kSl k_api_Pair) [z.1] x.f_Pairs, .ro (kSl kB) [z.2] x.f_Data] PH.emp := by
  intro R cs h
  obtain ⟨v4, v5, rfl, h4, h5⟩ := h
  exact ⟨(v4, v5), rfl, (satRo h4 (satRo h5 satNil))⟩

mutual
structure command_Command where
  f_Kind : UInt8
  f_WCC : UInt8
  f_Orders : (List api_Order)
  f_Err : Int
  f_Fields : (List command_Field)
deriving Inhabited

structure command_Field where
  f_ID : UInt8
  f_Op : UInt8
  f_Inner : command_Command
deriving Inhabited

end
theorem struct_ext_command_Command (x y : command_Command) : x = y ↔ x.f_Kind = y.f_Kind ∧ x.f_WCC = y.f_WCC ∧ x.f_Orders = y.f_Orders ∧ x.f_Err = y.f_Err ∧ x.f_Fields = y.f_Fields := by cases x; cases y; simp
theorem struct_ext_command_Field (x y : command_Field) : x = y ↔ x.f_ID = y.f_ID ∧ x.f_Op = y.f_Op ∧ x.f_Inner = y.f_Inner := by cases x; cases y; simp
def kf_command_Field (k : Kind command_Field) : Kind command_Field where
  n := 7
  rd R cs x := ∃ v4 v6 : Value, cs = [vB x.f_ID, vB x.f_Op, vB x.f_Inner.f_Kind, vB x.f_Inner.f_WCC, v4, .int .i64 x.f_Inner.f_Err, v6] ∧ (kSl k_api_Order).rd R [v4] x.f_Inner.f_Orders ∧ (kSl k).rd R [v6] x.f_Inner.f_Fields
  mono {R R' cs x} hR h := by
    obtain ⟨v4, v6, rfl, h4, h6⟩ := h
    exact ⟨v4, v6, rfl, Kind.mono _ hR h4, Kind.mono _ hR h6⟩
  len {R cs x} h := by
    obtain ⟨v4, v6, rfl, _⟩ := h
    rfl
  one {R cs x} h := by
    obtain ⟨v4, v6, rfl, h4, h6⟩ := h
    intro c hc
    simp only [List.mem_cons, List.not_mem_nil, or_false] at hc
    rcases hc with rfl | rfl | rfl | rfl | rfl | rfl | rfl
    · rfl
    · rfl
    · rfl
    · rfl
    · exact Kind.one _ h4 _ (by simp)
    · rfl
    · exact Kind.one _ h6 _ (by simp)
def kn_command_Field : Nat → Kind command_Field
  | 0 => noK command_Field 7
  | d + 1 => kf_command_Field (kn_command_Field d)
theorem kn_command_Field_n : ∀ d, (kn_command_Field d).n = 7
  | 0 => rfl
  | _ + 1 => rfl
theorem kn_command_Field_up : ∀ d R cs x, (kn_command_Field d).rd R cs x → (kn_command_Field (d + 1)).rd R cs x := by
  intro d
  induction d with
  | zero => exact fun _ _ _ h => h.elim
  | succ d ih =>
    intro R cs x h
    obtain ⟨v4, v6, rfl, h4, h6⟩ := h
    exact ⟨v4, v6, rfl, h4, kSl_mono' ih h6⟩
def k_command_Field : Kind command_Field := lfpK kn_command_Field 7 kn_command_Field_n
theorem k_command_Field_iff {R : PH} {cs : List Value} {x : command_Field} : k_command_Field.rd R cs x ↔ ∃ v4 v6 : Value, cs = [vB x.f_ID, vB x.f_Op, vB x.f_Inner.f_Kind, vB x.f_Inner.f_WCC, v4, .int .i64 x.f_Inner.f_Err, v6] ∧ (kSl k_api_Order).rd R [v4] x.f_Inner.f_Orders ∧ (kSl k_command_Field).rd R [v6] x.f_Inner.f_Fields := by
  constructor
  · rintro ⟨d, h⟩
    cases d with
    | zero => exact h.elim
    | succ d =>
      obtain ⟨v4, v6, rfl, h4, h6⟩ := h
      exact ⟨v4, v6, rfl, h4, kSl_mono' (k' := k_command_Field) (fun R cs x h => ⟨d, h⟩) h6⟩
  · intro h
    obtain ⟨v4, v6, rfl, h4, h6⟩ := h
    obtain ⟨d, h6⟩ := kSl_sup kn_command_Field_up h6
    exact ⟨d + 1, v4, v6, rfl, h4, h6⟩
theorem open_command_Field (x : command_Field) : ∀ R cs, k_command_Field.rd R cs x → ∃ z : Value × Value, cs = [vB x.f_ID, vB x.f_Op, vB x.f_Inner.f_Kind, vB x.f_Inner.f_WCC, z.1, .int .i64 x.f_Inner.f_Err, z.2] ∧ sat R [.ro (kSl k_api_Order) [z.1] x.f_Inner.f_Orders, .ro (kSl k_command_Field) [z.2] x.f_Inner.f_Fields] PH.emp := by
  intro R cs h
  rw [k_command_Field_iff] at h
  obtain ⟨v4, v6, rfl, h4, h6⟩ := h
  exact ⟨(v4, v6), rfl, (satRo h4 (satRo h6 satNil))⟩

def k_command_Command : Kind command_Command where
  n := 5
  rd R cs x := ∃ v2 v4 : Value, cs = [vB x.f_Kind, vB x.f_WCC, v2, .int .i64 x.f_Err, v4] ∧ (kSl k_api_Order).rd R [v2] x.f_Orders ∧ (kSl k_command_Field).rd R [v4] x.f_Fields
  mono {R R' cs x} hR h := by
    obtain ⟨v2, v4, rfl, h2, h4⟩ := h
    exact ⟨v2, v4, rfl, Kind.mono _ hR h2, Kind.mono _ hR h4⟩
  len {R cs x} h := by
    obtain ⟨v2, v4, rfl, _⟩ := h
    rfl
  one {R cs x} h := by
    obtain ⟨v2, v4, rfl, h2, h4⟩ := h
    intro c hc
    simp only [List.mem_cons, List.not_mem_nil, or_false] at hc
    rcases hc with rfl | rfl | rfl | rfl | rfl
    · rfl
    · rfl
    · exact Kind.one _ h2 _ (by simp)
    · rfl
    · exact Kind.one _ h4 _ (by simp)
theorem open_command_Command (x : command_Command) : ∀ R cs, k_command_Command.rd R cs x → ∃ z : Value × Value, cs = [vB x.f_Kind, vB x.f_WCC, z.1, .int .i64 x.f_Err, z.2] ∧ sat R [.ro (kSl k_api_Order) [z.1] x.f_Orders, .ro (kSl k_command_Field) [z.2] x.f_Fields] PH.emp := by
  intro R cs h
  obtain ⟨v2, v4, rfl, h2, h4⟩ := h
  exact ⟨(v2, v4), rfl, (satRo h2 (satRo h4 satNil))⟩

structure api_Size where
  f_Rows : Int
  f_Cols : Int
deriving DecidableEq, Inhabited

theorem struct_ext_api_Size (x y : api_Size) : x = y ↔ x.f_Rows = y.f_Rows ∧ x.f_Cols = y.f_Cols := by cases x; cases y; simp
def k_api_Size : Kind api_Size := Kind.flat 2 (fun x => [.int .i64 x.f_Rows, .int .i64 x.f_Cols]) (fun _ => rfl) fun x c h => by
  simp only [List.mem_cons, List.not_mem_nil, or_false] at h
  rcases h with rfl | rfl <;> rfl
structure api_Cell where
  f_Byte : UInt8
  f_GE : Bool
  f_Start : Bool
  f_Light : UInt8
  f_Color : UInt8
deriving DecidableEq, Inhabited

theorem struct_ext_api_Cell (x y : api_Cell) : x = y ↔ x.f_Byte = y.f_Byte ∧ x.f_GE = y.f_GE ∧ x.f_Start = y.f_Start ∧ x.f_Light = y.f_Light ∧ x.f_Color = y.f_Color := by cases x; cases y; simp
def k_api_Cell : Kind api_Cell := Kind.flat 5 (fun x => [vB x.f_Byte, .bool x.f_GE, .bool x.f_Start, vB x.f_Light, vB x.f_Color]) (fun _ => rfl) fun x c h => by
  simp only [List.mem_cons, List.not_mem_nil, or_false] at h
  rcases h with rfl | rfl | rfl | rfl | rfl <;> rfl
structure plane_Plane where
  f_size : api_Size
  f_cells : (List api_Cell)
  f_cursor : Int
deriving DecidableEq, Inhabited

theorem struct_ext_plane_Plane (x y : plane_Plane) : x = y ↔ x.f_size = y.f_size ∧ x.f_cells = y.f_cells ∧ x.f_cursor = y.f_cursor := by cases x; cases y; simp
def k_plane_Plane : Kind plane_Plane where
  n := 4
  rd R cs x := ∃ v2 : Value, cs = [.int .i64 x.f_size.f_Rows, .int .i64 x.f_size.f_Cols, v2, .int .i64 x.f_cursor] ∧ (kSl k_api_Cell).rd R [v2] x.f_cells
  mono {R R' cs x} hR h := by
    obtain ⟨v2, rfl, h2⟩ := h
    exact ⟨v2, rfl, Kind.mono _ hR h2⟩
  len {R cs x} h := by
    obtain ⟨v2, rfl, _⟩ := h
    rfl
  one {R cs x} h := by
    obtain ⟨v2, rfl, h2⟩ := h
    intro c hc
    simp only [List.mem_cons, List.not_mem_nil, or_false] at hc
    rcases hc with rfl | rfl | rfl | rfl
    · rfl
    · rfl
    · exact Kind.one _ h2 _ (by simp)
    · rfl
theorem open_plane_Plane (x : plane_Plane) : ∀ R cs, k_plane_Plane.rd R cs x → ∃ z : Value, cs = [.int .i64 x.f_size.f_Rows, .int .i64 x.f_size.f_Cols, z, .int .i64 x.f_cursor] ∧ sat R [.ro (kSl k_api_Cell) [z] x.f_cells] PH.emp := by
  intro R cs h
  obtain ⟨v2, rfl, h2⟩ := h
  exact ⟨v2, rfl, (satRo h2 satNil)⟩

structure field_Field where
  f_Start : Int
  f_Len : Int
  f_Attr : UInt8
deriving DecidableEq, Inhabited

theorem struct_ext_field_Field (x y : field_Field) : x = y ↔ x.f_Start = y.f_Start ∧ x.f_Len = y.f_Len ∧ x.f_Attr = y.f_Attr := by cases x; cases y; simp
def k_field_Field : Kind field_Field := Kind.flat 3 (fun x => [.int .i64 x.f_Start, .int .i64 x.f_Len, vB x.f_Attr]) (fun _ => rfl) fun x c h => by
  simp only [List.mem_cons, List.not_mem_nil, or_false] at h
  rcases h with rfl | rfl | rfl <;> rfl
structure paint_brush where
  f_p : plane_Plane
  f_at : Int
  f_look : api_Cell
  f_laid : Bool
deriving Inhabited

structure screen_Screen where
  f_sizes_0 : api_Size
  f_sizes_1 : api_Size
  f_which : Int
  f_p : plane_Plane
deriving Inhabited

structure screen_Result where
  f_Reply : UInt8
  f_Restore : Bool
  f_Alarm : Bool
  f_Err : Int
deriving DecidableEq, Inhabited

theorem struct_ext_screen_Result (x y : screen_Result) : x = y ↔ x.f_Reply = y.f_Reply ∧ x.f_Restore = y.f_Restore ∧ x.f_Alarm = y.f_Alarm ∧ x.f_Err = y.f_Err := by cases x; cases y; simp
def k_screen_Result : Kind screen_Result := Kind.flat 4 (fun x => [vB x.f_Reply, .bool x.f_Restore, .bool x.f_Alarm, .int .i64 x.f_Err]) (fun _ => rfl) fun x c h => by
  simp only [List.mem_cons, List.not_mem_nil, or_false] at h
  rcases h with rfl | rfl | rfl | rfl <;> rfl
structure ref14_Plane where
  f_Size : api_Size
  f_Cells : (List api_Cell)
  f_Cursor : Int
deriving DecidableEq, Inhabited

theorem struct_ext_ref14_Plane (x y : ref14_Plane) : x = y ↔ x.f_Size = y.f_Size ∧ x.f_Cells = y.f_Cells ∧ x.f_Cursor = y.f_Cursor := by cases x; cases y; simp
def k_ref14_Plane : Kind ref14_Plane where
  n := 4
  rd R cs x := ∃ v2 : Value, cs = [.int .i64 x.f_Size.f_Rows, .int .i64 x.f_Size.f_Cols, v2, .int .i64 x.f_Cursor] ∧ (kSl k_api_Cell).rd R [v2] x.f_Cells
  mono {R R' cs x} hR h := by
    obtain ⟨v2, rfl, h2⟩ := h
    exact ⟨v2, rfl, Kind.mono _ hR h2⟩
  len {R cs x} h := by
    obtain ⟨v2, rfl, _⟩ := h
    rfl
  one {R cs x} h := by
    obtain ⟨v2, rfl, h2⟩ := h
    intro c hc
    simp only [List.mem_cons, List.not_mem_nil, or_false] at hc
    rcases hc with rfl | rfl | rfl | rfl
    · rfl
    · rfl
    · exact Kind.one _ h2 _ (by simp)
    · rfl
theorem open_ref14_Plane (x : ref14_Plane) : ∀ R cs, k_ref14_Plane.rd R cs x → ∃ z : Value, cs = [.int .i64 x.f_Size.f_Rows, .int .i64 x.f_Size.f_Cols, z, .int .i64 x.f_Cursor] ∧ sat R [.ro (kSl k_api_Cell) [z] x.f_Cells] PH.emp := by
  intro R cs h
  obtain ⟨v2, rfl, h2⟩ := h
  exact ⟨v2, rfl, (satRo h2 satNil)⟩

structure ref18_Screen where
  f_Plain : api_Size
  f_More : api_Size
  f_P : ref14_Plane
  f_Other : Bool
deriving DecidableEq, Inhabited

theorem struct_ext_ref18_Screen (x y : ref18_Screen) : x = y ↔ x.f_Plain = y.f_Plain ∧ x.f_More = y.f_More ∧ x.f_P = y.f_P ∧ x.f_Other = y.f_Other := by cases x; cases y; simp
def k_ref18_Screen : Kind ref18_Screen where
  n := 9
  rd R cs x := ∃ v6 : Value, cs = [.int .i64 x.f_Plain.f_Rows, .int .i64 x.f_Plain.f_Cols, .int .i64 x.f_More.f_Rows, .int .i64 x.f_More.f_Cols, .int .i64 x.f_P.f_Size.f_Rows, .int .i64 x.f_P.f_Size.f_Cols, v6, .int .i64 x.f_P.f_Cursor, .bool x.f_Other] ∧ (kSl k_api_Cell).rd R [v6] x.f_P.f_Cells
  mono {R R' cs x} hR h := by
    obtain ⟨v6, rfl, h6⟩ := h
    exact ⟨v6, rfl, Kind.mono _ hR h6⟩
  len {R cs x} h := by
    obtain ⟨v6, rfl, _⟩ := h
    rfl
  one {R cs x} h := by
    obtain ⟨v6, rfl, h6⟩ := h
    intro c hc
    simp only [List.mem_cons, List.not_mem_nil, or_false] at hc
    rcases hc with rfl | rfl | rfl | rfl | rfl | rfl | rfl | rfl | rfl
    · rfl
    · rfl
    · rfl
    · rfl
    · rfl
    · rfl
    · exact Kind.one _ h6 _ (by simp)
    · rfl
    · rfl
theorem open_ref18_Screen (x : ref18_Screen) : ∀ R cs, k_ref18_Screen.rd R cs x → ∃ z : Value, cs = [.int .i64 x.f_Plain.f_Rows, .int .i64 x.f_Plain.f_Cols, .int .i64 x.f_More.f_Rows, .int .i64 x.f_More.f_Cols, .int .i64 x.f_P.f_Size.f_Rows, .int .i64 x.f_P.f_Size.f_Cols, z, .int .i64 x.f_P.f_Cursor, .bool x.f_Other] ∧ sat R [.ro (kSl k_api_Cell) [z] x.f_P.f_Cells] PH.emp := by
  intro R cs h
  obtain ⟨v6, rfl, h6⟩ := h
  exact ⟨v6, rfl, (satRo h6 satNil)⟩

theorem mixed : Try.prog.follows .mixedOrders = true := by kernel_rfl
theorem zer_73 : zeroT Try.prog 73 = some (.agg #[.int .u8 0, .int .u8 0, .string ⟨#[]⟩]) := by kernel_rfl
theorem plc_73 : placesOf Try.prog 73 = some [(0, 1), (1, 1), (2, 1)] := by kernel_rfl
theorem und_88 : Try.prog.underlying 88 = some (.slice 73) := by kernel_rfl
theorem siz_73 : sizeT Try.prog 73 = some 3 := by kernel_rfl
theorem fok_42 : fnOk Try.prog 42 = true := by kernel_rfl
theorem agg_73 : aggT Try.prog 73 = some true := by kernel_rfl
theorem fld_73_0 : fieldOf Try.prog 73 0 = some (0, 1, false) := by kernel_rfl
theorem agg_5 : aggT Try.prog 5 = some false := by kernel_rfl
theorem fld_73_1 : fieldOf Try.prog 73 1 = some (1, 1, false) := by kernel_rfl
theorem und_34 : Try.prog.underlying 34 = some (.slice 5) := by kernel_rfl
theorem siz_5 : sizeT Try.prog 5 = some 1 := by kernel_rfl
theorem zer_5 : zeroT Try.prog 5 = some (.int .u8 0) := by kernel_rfl
theorem inf_5 : elemInfo Try.prog 5 = some (1, 1, 1) := by kernel_rfl
theorem zer_97 : zeroT Try.prog 97 = some (.agg #[.int .u8 0, .int .i64 0, .int .u8 0, .bool false, .slice none 0 0, .slice none 0 0]) := by kernel_rfl
theorem fld_92_1 : fieldOf Try.prog 92 1 = some (1, 1, false) := by kernel_rfl
theorem agg_3 : aggT Try.prog 3 = some false := by kernel_rfl
theorem fld_92_0 : fieldOf Try.prog 92 0 = some (0, 1, false) := by kernel_rfl
theorem agg_34 : aggT Try.prog 34 = some false := by kernel_rfl
theorem fok_60 : fnOk Try.prog 60 = true := by kernel_rfl
theorem siz_3 : sizeT Try.prog 3 = some 1 := by kernel_rfl
theorem fok_76 : fnOk Try.prog 76 = true := by kernel_rfl
theorem plc_97 : placesOf Try.prog 97 = some [(0, 1), (1, 1), (2, 1), (3, 1), (4, 1), (5, 1)] := by kernel_rfl
theorem siz_97 : sizeT Try.prog 97 = some 6 := by kernel_rfl
theorem agg_97 : aggT Try.prog 97 = some true := by kernel_rfl
theorem zer_94 : zeroT Try.prog 94 = some (.agg #[.int .i64 0]) := by kernel_rfl
theorem plc_94 : placesOf Try.prog 94 = some [(0, 1)] := by kernel_rfl
theorem nif_94 : notIf Try.prog 94 = true := by kernel_rfl
theorem som_5 : (Try.prog.underlying 5).isSome = true := by kernel_rfl
theorem und_3 : Try.prog.underlying 3 = some (.int .i64) := by kernel_rfl
theorem fok_92 : fnOk Try.prog 92 = true := by kernel_rfl
theorem fok_77 : fnOk Try.prog 77 = true := by kernel_rfl
theorem fok_62 : fnOk Try.prog 62 = true := by kernel_rfl
theorem fld_132_0 : fieldOf Try.prog 132 0 = some (0, 1, false) := by kernel_rfl
theorem fld_132_1 : fieldOf Try.prog 132 1 = some (1, 1, false) := by kernel_rfl
theorem zer_132 : zeroT Try.prog 132 = some (.agg #[.int .u8 0, .int .u8 0]) := by kernel_rfl
theorem plc_132 : placesOf Try.prog 132 = some [(0, 1), (1, 1)] := by kernel_rfl
theorem siz_132 : sizeT Try.prog 132 = some 2 := by kernel_rfl
theorem agg_132 : aggT Try.prog 132 = some true := by kernel_rfl
theorem fok_78 : fnOk Try.prog 78 = true := by kernel_rfl
theorem und_95 : Try.prog.underlying 95 = some (.slice 132) := by kernel_rfl
theorem inf_132 : elemInfo Try.prog 132 = some (2, 2, 2) := by kernel_rfl
theorem fld_97_2 : fieldOf Try.prog 97 2 = some (2, 1, false) := by kernel_rfl
theorem fld_97_3 : fieldOf Try.prog 97 3 = some (3, 1, false) := by kernel_rfl
theorem siz_4 : sizeT Try.prog 4 = some 1 := by kernel_rfl
theorem fok_66 : fnOk Try.prog 66 = true := by kernel_rfl
theorem fok_63 : fnOk Try.prog 63 = true := by kernel_rfl
theorem fok_61 : fnOk Try.prog 61 = true := by kernel_rfl
theorem fok_64 : fnOk Try.prog 64 = true := by kernel_rfl
theorem fok_65 : fnOk Try.prog 65 = true := by kernel_rfl
theorem zer_35 : zeroT Try.prog 35 = some (.int .i64 0) := by kernel_rfl
theorem zer_92 : zeroT Try.prog 92 = some (.agg #[.slice none 0 0, .int .i64 0]) := by kernel_rfl
theorem plc_92 : placesOf Try.prog 92 = some [(0, 1), (1, 1)] := by kernel_rfl
theorem und_55 : Try.prog.underlying 55 = some (.slice 97) := by kernel_rfl
theorem inf_97 : elemInfo Try.prog 97 = some (6, 72, 6) := by kernel_rfl
theorem ifc_20 : isIf Try.prog 20 = true := by kernel_rfl
theorem siz_94 : sizeT Try.prog 94 = some 1 := by kernel_rfl
theorem fld_94_0 : fieldOf Try.prog 94 0 = some (0, 1, false) := by kernel_rfl
theorem agg_35 : aggT Try.prog 35 = some false := by kernel_rfl
theorem siz_35 : sizeT Try.prog 35 = some 1 := by kernel_rfl
theorem fok_44 : fnOk Try.prog 44 = true := by kernel_rfl
theorem fok_43 : fnOk Try.prog 43 = true := by kernel_rfl
theorem zer_102 : zeroT Try.prog 102 = some (.agg #[.int .u8 0, .int .u8 0, .int .u8 0, .int .u8 0, .slice none 0 0, .int .i64 0, .slice none 0 0]) := by kernel_rfl
theorem plc_102 : placesOf Try.prog 102 = some [(0, 1), (1, 1), (2, 5)] := by kernel_rfl
theorem siz_102 : sizeT Try.prog 102 = some 7 := by kernel_rfl
theorem agg_102 : aggT Try.prog 102 = some true := by kernel_rfl
theorem fok_29 : fnOk Try.prog 29 = true := by kernel_rfl
theorem zer_58 : zeroT Try.prog 58 = some (.agg #[.int .u8 0, .int .u8 0, .slice none 0 0, .int .i64 0, .slice none 0 0]) := by kernel_rfl
theorem plc_58 : placesOf Try.prog 58 = some [(0, 1), (1, 1), (2, 1), (3, 1), (4, 1)] := by kernel_rfl
theorem siz_58 : sizeT Try.prog 58 = some 5 := by kernel_rfl
theorem fok_28 : fnOk Try.prog 28 = true := by kernel_rfl
theorem fld_58_1 : fieldOf Try.prog 58 1 = some (1, 1, false) := by kernel_rfl
theorem fok_30 : fnOk Try.prog 30 = true := by kernel_rfl
theorem fld_58_2 : fieldOf Try.prog 58 2 = some (2, 1, false) := by kernel_rfl
theorem siz_55 : sizeT Try.prog 55 = some 1 := by kernel_rfl
theorem fld_58_3 : fieldOf Try.prog 58 3 = some (3, 1, false) := by kernel_rfl
theorem agg_58 : aggT Try.prog 58 = some true := by kernel_rfl
theorem fok_19 : fnOk Try.prog 19 = true := by kernel_rfl
theorem fld_58_0 : fieldOf Try.prog 58 0 = some (0, 1, false) := by kernel_rfl
theorem fok_79 : fnOk Try.prog 79 = true := by kernel_rfl
theorem fok_67 : fnOk Try.prog 67 = true := by kernel_rfl
theorem fok_68 : fnOk Try.prog 68 = true := by kernel_rfl
theorem fok_69 : fnOk Try.prog 69 = true := by kernel_rfl
theorem fok_45 : fnOk Try.prog 45 = true := by kernel_rfl
theorem fok_46 : fnOk Try.prog 46 = true := by kernel_rfl
theorem und_56 : Try.prog.underlying 56 = some (.slice 102) := by kernel_rfl
theorem inf_102 : elemInfo Try.prog 102 = some (7, 72, 7) := by kernel_rfl
theorem fok_31 : fnOk Try.prog 31 = true := by kernel_rfl
theorem fld_58_4 : fieldOf Try.prog 58 4 = some (4, 1, false) := by kernel_rfl
theorem siz_56 : sizeT Try.prog 56 = some 1 := by kernel_rfl
theorem fld_66_1 : fieldOf Try.prog 66 1 = some (2, 1, false) := by kernel_rfl
theorem agg_27 : aggT Try.prog 27 = some false := by kernel_rfl
theorem und_27 : Try.prog.underlying 27 = some (.slice 44) := by kernel_rfl
theorem zer_44 : zeroT Try.prog 44 = some (.agg #[.int .u8 0, .bool false, .bool false, .int .u8 0, .int .u8 0]) := by kernel_rfl
theorem fok_21 : fnOk Try.prog 21 = true := by kernel_rfl
theorem plc_44 : placesOf Try.prog 44 = some [(0, 1), (1, 1), (2, 1), (3, 1), (4, 1)] := by kernel_rfl
theorem siz_44 : sizeT Try.prog 44 = some 5 := by kernel_rfl
theorem agg_44 : aggT Try.prog 44 = some true := by kernel_rfl
theorem zer_23 : zeroT Try.prog 23 = some (.agg #[.int .i64 0, .int .i64 0]) := by kernel_rfl
theorem fld_66_0 : fieldOf Try.prog 66 0 = some (0, 2, true) := by kernel_rfl
theorem agg_23 : aggT Try.prog 23 = some true := by kernel_rfl
theorem siz_23 : sizeT Try.prog 23 = some 2 := by kernel_rfl
theorem fld_23_0 : fieldOf Try.prog 23 0 = some (0, 1, false) := by kernel_rfl
theorem fld_23_1 : fieldOf Try.prog 23 1 = some (1, 1, false) := by kernel_rfl
theorem fok_24 : fnOk Try.prog 24 = true := by kernel_rfl
theorem fok_12 : fnOk Try.prog 12 = true := by kernel_rfl
theorem fok_10 : fnOk Try.prog 10 = true := by kernel_rfl
theorem fok_74 : fnOk Try.prog 74 = true := by kernel_rfl
theorem fok_13 : fnOk Try.prog 13 = true := by kernel_rfl
theorem fld_44_2 : fieldOf Try.prog 44 2 = some (2, 1, false) := by kernel_rfl
theorem fok_93 : fnOk Try.prog 93 = true := by kernel_rfl
theorem zer_109 : zeroT Try.prog 109 = some (.agg #[.int .i64 0, .int .i64 0, .int .u8 0]) := by kernel_rfl
theorem fok_80 : fnOk Try.prog 80 = true := by kernel_rfl
theorem fld_44_0 : fieldOf Try.prog 44 0 = some (0, 1, false) := by kernel_rfl
theorem plc_109 : placesOf Try.prog 109 = some [(0, 1), (1, 1), (2, 1)] := by kernel_rfl
theorem siz_109 : sizeT Try.prog 109 = some 3 := by kernel_rfl
theorem agg_109 : aggT Try.prog 109 = some true := by kernel_rfl
theorem fok_56 : fnOk Try.prog 56 = true := by kernel_rfl
theorem fok_54 : fnOk Try.prog 54 = true := by kernel_rfl
theorem zer_3 : zeroT Try.prog 3 = some (.int .i64 0) := by kernel_rfl
theorem agg_39 : aggT Try.prog 39 = some false := by kernel_rfl
theorem fok_47 : fnOk Try.prog 47 = true := by kernel_rfl
theorem fok_71 : fnOk Try.prog 71 = true := by kernel_rfl
theorem fld_109_2 : fieldOf Try.prog 109 2 = some (2, 1, false) := by kernel_rfl
theorem fok_48 : fnOk Try.prog 48 = true := by kernel_rfl
theorem fld_109_0 : fieldOf Try.prog 109 0 = some (0, 1, false) := by kernel_rfl
theorem fok_49 : fnOk Try.prog 49 = true := by kernel_rfl
theorem fok_70 : fnOk Try.prog 70 = true := by kernel_rfl
theorem fld_123_0 : fieldOf Try.prog 123 0 = some (0, 1, false) := by kernel_rfl
theorem fld_123_1 : fieldOf Try.prog 123 1 = some (1, 1, false) := by kernel_rfl
theorem fok_100 : fnOk Try.prog 100 = true := by kernel_rfl
theorem fld_123_2 : fieldOf Try.prog 123 2 = some (2, 5, true) := by kernel_rfl
theorem fld_44_3 : fieldOf Try.prog 44 3 = some (3, 1, false) := by kernel_rfl
theorem fld_44_4 : fieldOf Try.prog 44 4 = some (4, 1, false) := by kernel_rfl
theorem fld_97_5 : fieldOf Try.prog 97 5 = some (5, 1, false) := by kernel_rfl
theorem fok_95 : fnOk Try.prog 95 = true := by kernel_rfl
theorem fok_94 : fnOk Try.prog 94 = true := by kernel_rfl
theorem fld_97_1 : fieldOf Try.prog 97 1 = some (1, 1, false) := by kernel_rfl
theorem fld_97_0 : fieldOf Try.prog 97 0 = some (0, 1, false) := by kernel_rfl
theorem fld_97_4 : fieldOf Try.prog 97 4 = some (4, 1, false) := by kernel_rfl
theorem agg_95 : aggT Try.prog 95 = some false := by kernel_rfl
theorem fok_96 : fnOk Try.prog 96 = true := by kernel_rfl
theorem agg_4 : aggT Try.prog 4 = some false := by kernel_rfl
theorem fld_66_2 : fieldOf Try.prog 66 2 = some (3, 1, false) := by kernel_rfl
theorem fok_57 : fnOk Try.prog 57 = true := by kernel_rfl
theorem fld_123_3 : fieldOf Try.prog 123 3 = some (7, 1, false) := by kernel_rfl
theorem fok_97 : fnOk Try.prog 97 = true := by kernel_rfl
theorem fok_55 : fnOk Try.prog 55 = true := by kernel_rfl
theorem fok_99 : fnOk Try.prog 99 = true := by kernel_rfl
theorem fok_101 : fnOk Try.prog 101 = true := by kernel_rfl
theorem fok_83 : fnOk Try.prog 83 = true := by kernel_rfl
theorem fok_98 : fnOk Try.prog 98 = true := by kernel_rfl
theorem fok_91 : fnOk Try.prog 91 = true := by kernel_rfl
theorem fok_73 : fnOk Try.prog 73 = true := by kernel_rfl
theorem agg_121 : aggT Try.prog 121 = some false := by kernel_rfl
theorem fok_53 : fnOk Try.prog 53 = true := by kernel_rfl
theorem fok_81 : fnOk Try.prog 81 = true := by kernel_rfl
theorem fok_82 : fnOk Try.prog 82 = true := by kernel_rfl
theorem fok_84 : fnOk Try.prog 84 = true := by kernel_rfl
theorem fok_85 : fnOk Try.prog 85 = true := by kernel_rfl
theorem fok_86 : fnOk Try.prog 86 = true := by kernel_rfl
theorem fok_87 : fnOk Try.prog 87 = true := by kernel_rfl
theorem fok_88 : fnOk Try.prog 88 = true := by kernel_rfl
theorem fok_89 : fnOk Try.prog 89 = true := by kernel_rfl
theorem fok_90 : fnOk Try.prog 90 = true := by kernel_rfl
theorem zer_123 : zeroT Try.prog 123 = some (.agg #[.pointer none, .int .i64 0, .int .u8 0, .bool false, .bool false, .int .u8 0, .int .u8 0, .bool false]) := by kernel_rfl
theorem plc_123 : placesOf Try.prog 123 = some [(0, 1), (1, 1), (2, 5), (7, 1)] := by kernel_rfl
theorem fok_72 : fnOk Try.prog 72 = true := by kernel_rfl
theorem zer_37 : zeroT Try.prog 37 = some (.agg #[.int .u8 0, .bool false, .bool false, .int .i64 0]) := by kernel_rfl
theorem fld_64_2 : fieldOf Try.prog 64 2 = some (5, 1, false) := by kernel_rfl
theorem agg_55 : aggT Try.prog 55 = some false := by kernel_rfl
theorem fok_50 : fnOk Try.prog 50 = true := by kernel_rfl
theorem plc_37 : placesOf Try.prog 37 = some [(0, 1), (1, 1), (2, 1), (3, 1)] := by kernel_rfl
theorem siz_37 : sizeT Try.prog 37 = some 4 := by kernel_rfl
theorem fok_51 : fnOk Try.prog 51 = true := by kernel_rfl
theorem fok_52 : fnOk Try.prog 52 = true := by kernel_rfl
theorem agg_37 : aggT Try.prog 37 = some true := by kernel_rfl
theorem inf_44 : elemInfo Try.prog 44 = some (5, 5, 5) := by kernel_rfl
theorem zer_66 : zeroT Try.prog 66 = some (.agg #[.int .i64 0, .int .i64 0, .slice none 0 0, .int .i64 0]) := by kernel_rfl
theorem plc_66 : placesOf Try.prog 66 = some [(0, 2), (2, 1), (3, 1)] := by kernel_rfl
theorem fld_64_1 : fieldOf Try.prog 64 1 = some (4, 1, false) := by kernel_rfl
theorem fld_64_0 : fieldOf Try.prog 64 0 = some (0, 4, true) := by kernel_rfl
theorem und_62 : Try.prog.underlying 62 = some (.array 2 23) := by kernel_rfl
theorem siz_39 : sizeT Try.prog 39 = some 1 := by kernel_rfl
theorem fok_40 : fnOk Try.prog 40 = true := by kernel_rfl
theorem fok_25 : fnOk Try.prog 25 = true := by kernel_rfl
theorem fok_34 : fnOk Try.prog 34 = true := by kernel_rfl
theorem fld_109_1 : fieldOf Try.prog 109 1 = some (1, 1, false) := by kernel_rfl
theorem fok_58 : fnOk Try.prog 58 = true := by kernel_rfl
theorem fok_32 : fnOk Try.prog 32 = true := by kernel_rfl
theorem fok_33 : fnOk Try.prog 33 = true := by kernel_rfl
theorem fok_35 : fnOk Try.prog 35 = true := by kernel_rfl
theorem fok_36 : fnOk Try.prog 36 = true := by kernel_rfl
theorem fok_37 : fnOk Try.prog 37 = true := by kernel_rfl
theorem fld_102_0 : fieldOf Try.prog 102 0 = some (0, 1, false) := by kernel_rfl
theorem fld_102_1 : fieldOf Try.prog 102 1 = some (1, 1, false) := by kernel_rfl
theorem fok_75 : fnOk Try.prog 75 = true := by kernel_rfl
theorem fld_102_2 : fieldOf Try.prog 102 2 = some (2, 5, true) := by kernel_rfl
theorem fok_20 : fnOk Try.prog 20 = true := by kernel_rfl
theorem fld_37_0 : fieldOf Try.prog 37 0 = some (0, 1, false) := by kernel_rfl
theorem agg_56 : aggT Try.prog 56 = some false := by kernel_rfl
theorem fok_59 : fnOk Try.prog 59 = true := by kernel_rfl
theorem fld_37_3 : fieldOf Try.prog 37 3 = some (3, 1, false) := by kernel_rfl
theorem fld_37_1 : fieldOf Try.prog 37 1 = some (1, 1, false) := by kernel_rfl
theorem fld_37_2 : fieldOf Try.prog 37 2 = some (2, 1, false) := by kernel_rfl
theorem fok_38 : fnOk Try.prog 38 = true := by kernel_rfl
theorem fok_39 : fnOk Try.prog 39 = true := by kernel_rfl
theorem agg_64 : aggT Try.prog 64 = some true := by kernel_rfl
theorem siz_64 : sizeT Try.prog 64 = some 6 := by kernel_rfl
theorem zer_64 : zeroT Try.prog 64 = some (.agg #[.int .i64 0, .int .i64 0, .int .i64 0, .int .i64 0, .int .i64 0, .pointer none]) := by kernel_rfl
theorem fok_22 : fnOk Try.prog 22 = true := by kernel_rfl
theorem zer_62 : zeroT Try.prog 62 = some (.agg #[.int .i64 0, .int .i64 0, .int .i64 0, .int .i64 0]) := by kernel_rfl
theorem plc_64 : placesOf Try.prog 64 = some [(0, 4), (4, 1), (5, 1)] := by kernel_rfl
theorem fok_17 : fnOk Try.prog 17 = true := by kernel_rfl
theorem plc_23 : placesOf Try.prog 23 = some [(0, 1), (1, 1)] := by kernel_rfl
theorem und_26 : Try.prog.underlying 26 = some (.pointer 64) := by kernel_rfl
theorem fok_9 : fnOk Try.prog 9 = true := by kernel_rfl
theorem und_39 : Try.prog.underlying 39 = some (.pointer 66) := by kernel_rfl
theorem fok_8 : fnOk Try.prog 8 = true := by kernel_rfl
theorem fok_14 : fnOk Try.prog 14 = true := by kernel_rfl
theorem fok_11 : fnOk Try.prog 11 = true := by kernel_rfl
theorem eqg_37 : Try.prog.eqGuardType Try.prog.depth 37 = false := by kernel_rfl
theorem fok_16 : fnOk Try.prog 16 = true := by kernel_rfl
theorem zer_29 : zeroT Try.prog 29 = some (.agg #[.int .i64 0, .int .i64 0, .slice none 0 0, .int .i64 0]) := by kernel_rfl
theorem fok_26 : fnOk Try.prog 26 = true := by kernel_rfl
theorem plc_29 : placesOf Try.prog 29 = some [(0, 2), (2, 1), (3, 1)] := by kernel_rfl
theorem siz_29 : sizeT Try.prog 29 = some 4 := by kernel_rfl
theorem agg_29 : aggT Try.prog 29 = some true := by kernel_rfl
theorem zer_31 : zeroT Try.prog 31 = some (.agg #[.int .i64 0, .int .i64 0, .int .i64 0, .int .i64 0, .int .i64 0, .int .i64 0, .slice none 0 0, .int .i64 0, .bool false]) := by kernel_rfl
theorem fld_31_3 : fieldOf Try.prog 31 3 = some (8, 1, false) := by kernel_rfl
theorem fld_31_0 : fieldOf Try.prog 31 0 = some (0, 2, true) := by kernel_rfl
theorem fok_41 : fnOk Try.prog 41 = true := by kernel_rfl
theorem fld_31_2 : fieldOf Try.prog 31 2 = some (4, 4, true) := by kernel_rfl
theorem fld_31_1 : fieldOf Try.prog 31 1 = some (2, 2, true) := by kernel_rfl
theorem agg_31 : aggT Try.prog 31 = some true := by kernel_rfl
theorem siz_31 : sizeT Try.prog 31 = some 9 := by kernel_rfl
theorem plc_31 : placesOf Try.prog 31 = some [(0, 2), (2, 2), (4, 4), (8, 1)] := by kernel_rfl
theorem fok_27 : fnOk Try.prog 27 = true := by kernel_rfl
theorem fok_18 : fnOk Try.prog 18 = true := by kernel_rfl
theorem fok_6 : fnOk Try.prog 6 = true := by kernel_rfl
theorem und_24 : Try.prog.underlying 24 = some (.slice 34) := by kernel_rfl
theorem siz_34 : sizeT Try.prog 34 = some 1 := by kernel_rfl
theorem eqg_23 : Try.prog.eqGuardType Try.prog.depth 23 = false := by kernel_rfl
theorem fok_7 : fnOk Try.prog 7 = true := by kernel_rfl
theorem eqg_44 : Try.prog.eqGuardType Try.prog.depth 44 = false := by kernel_rfl
theorem fok_23 : fnOk Try.prog 23 = true := by kernel_rfl
theorem fok_15 : fnOk Try.prog 15 = true := by kernel_rfl
theorem som_3 : (Try.prog.underlying 3).isSome = true := by kernel_rfl
theorem und_5 : Try.prog.underlying 5 = some (.int .u8) := by kernel_rfl
theorem und_4 : Try.prog.underlying 4 = some (.bool) := by kernel_rfl
theorem eqa_37 (x y : screen_Result) : eqT Try.prog 10000 37 (.agg [vB x.f_Reply, .bool x.f_Restore, .bool x.f_Alarm, .int .i64 x.f_Err].toArray) (.agg [vB y.f_Reply, .bool y.f_Restore, .bool y.f_Alarm, .int .i64 y.f_Err].toArray) = some (decide (x = y)) := by
  have h : eqT Try.prog 10000 37 (.agg [vB x.f_Reply, .bool x.f_Restore, .bool x.f_Alarm, .int .i64 x.f_Err].toArray) (.agg [vB y.f_Reply, .bool y.f_Restore, .bool y.f_Alarm, .int .i64 y.f_Err].toArray) = some ((((x.f_Reply).toNat : Int) == ((y.f_Reply).toNat : Int)) && ((x.f_Restore == y.f_Restore) && ((x.f_Alarm == y.f_Alarm) && ((x.f_Err == y.f_Err) && true)))) := by kernel_rfl
  rw [h]
  congr 1
  rw [Bool.eq_iff_iff]
  simp only [Bool.and_eq_true, beq_iff_eq, decide_eq_true_eq, and_true, Int.ofNat_inj, UInt8.toNat_inj, screen_Result.mk.injEq, struct_ext_screen_Result]
theorem eqa_23 (x y : api_Size) : eqT Try.prog 10000 23 (.agg [.int .i64 x.f_Rows, .int .i64 x.f_Cols].toArray) (.agg [.int .i64 y.f_Rows, .int .i64 y.f_Cols].toArray) = some (decide (x = y)) := by
  have h : eqT Try.prog 10000 23 (.agg [.int .i64 x.f_Rows, .int .i64 x.f_Cols].toArray) (.agg [.int .i64 y.f_Rows, .int .i64 y.f_Cols].toArray) = some ((x.f_Rows == y.f_Rows) && ((x.f_Cols == y.f_Cols) && true)) := by kernel_rfl
  rw [h]
  congr 1
  rw [Bool.eq_iff_iff]
  simp only [Bool.and_eq_true, beq_iff_eq, decide_eq_true_eq, and_true, Int.ofNat_inj, UInt8.toNat_inj, api_Size.mk.injEq, struct_ext_api_Size]
theorem eqa_44 (x y : api_Cell) : eqT Try.prog 10000 44 (.agg [vB x.f_Byte, .bool x.f_GE, .bool x.f_Start, vB x.f_Light, vB x.f_Color].toArray) (.agg [vB y.f_Byte, .bool y.f_GE, .bool y.f_Start, vB y.f_Light, vB y.f_Color].toArray) = some (decide (x = y)) := by
  have h : eqT Try.prog 10000 44 (.agg [vB x.f_Byte, .bool x.f_GE, .bool x.f_Start, vB x.f_Light, vB x.f_Color].toArray) (.agg [vB y.f_Byte, .bool y.f_GE, .bool y.f_Start, vB y.f_Light, vB y.f_Color].toArray) = some ((((x.f_Byte).toNat : Int) == ((y.f_Byte).toNat : Int)) && ((x.f_GE == y.f_GE) && ((x.f_Start == y.f_Start) && ((((x.f_Light).toNat : Int) == ((y.f_Light).toNat : Int)) && ((((x.f_Color).toNat : Int) == ((y.f_Color).toNat : Int)) && true))))) := by kernel_rfl
  rw [h]
  congr 1
  rw [Bool.eq_iff_iff]
  simp only [Bool.and_eq_true, beq_iff_eq, decide_eq_true_eq, and_true, Int.ofNat_inj, UInt8.toNat_inj, api_Cell.mk.injEq, struct_ext_api_Cell]

-- greenscreen/command.forms
def command_forms_m : Option ((List command_form)) := some ([(⟨(241 : UInt8), (1 : UInt8), ([87] : List UInt8)⟩ : command_form), (⟨(245 : UInt8), (5 : UInt8), ([69, 87] : List UInt8)⟩ : command_form), (⟨(126 : UInt8), (13 : UInt8), ([69, 87, 65] : List UInt8)⟩ : command_form), (⟨(111 : UInt8), (15 : UInt8), ([69, 65, 85] : List UInt8)⟩ : command_form), (⟨(242 : UInt8), (2 : UInt8), ([82, 66] : List UInt8)⟩ : command_form), (⟨(246 : UInt8), (6 : UInt8), ([82, 77] : List UInt8)⟩ : command_form), (⟨(110 : UInt8), (14 : UInt8), ([82, 77, 65] : List UInt8)⟩ : command_form), (⟨(243 : UInt8), (17 : UInt8), ([87, 83, 70] : List UInt8)⟩ : command_form)] : List command_form)
theorem command_forms_c : Con Try.prog 42 #[] [] (command_forms_m) (fun (o : (List command_form)) (x : Value) => x) (fun (o : (List command_form)) (x : Value) => [.own x 73 k_command_form o]) := by
  unfold command_forms_m
  refine con (args := []) Try.func42 rfl 10 rfl .n rfl fun c hD hrn => ?_
  refine cSeq ?_
  refine cRegion ?_
  refine lRd (dAssign (.c rfl)) rfl rfl ?_
  refine lNil ?_
  refine xCode ?_
  refine cSeq ?_
  refine cRegion ?_
  refine lRd (dBuild (cs := [vB (241 : UInt8), vB (1 : UInt8), vS ([87] : List UInt8)]) zer_73 rfl plc_73 (.c (.c (v' := vB 241) rfl) (.c (.c (v' := vB 1) rfl) (.c (.c (v' := vS ([87] : List UInt8)) rfl) .n))) rfl) rfl rfl ?_
  refine lRd (dBuild (cs := [vB (245 : UInt8), vB (5 : UInt8), vS ([69, 87] : List UInt8)]) zer_73 rfl plc_73 (.c (.c (v' := vB 245) rfl) (.c (.c (v' := vB 5) rfl) (.c (.c (v' := vS ([69, 87] : List UInt8)) rfl) .n))) rfl) rfl rfl ?_
  refine lRd (dBuild (cs := [vB (126 : UInt8), vB (13 : UInt8), vS ([69, 87, 65] : List UInt8)]) zer_73 rfl plc_73 (.c (.c (v' := vB 126) rfl) (.c (.c (v' := vB 13) rfl) (.c (.c (v' := vS ([69, 87, 65] : List UInt8)) rfl) .n))) rfl) rfl rfl ?_
  refine lRd (dBuild (cs := [vB (111 : UInt8), vB (15 : UInt8), vS ([69, 65, 85] : List UInt8)]) zer_73 rfl plc_73 (.c (.c (v' := vB 111) rfl) (.c (.c (v' := vB 15) rfl) (.c (.c (v' := vS ([69, 65, 85] : List UInt8)) rfl) .n))) rfl) rfl rfl ?_
  refine lRd (dBuild (cs := [vB (242 : UInt8), vB (2 : UInt8), vS ([82, 66] : List UInt8)]) zer_73 rfl plc_73 (.c (.c (v' := vB 242) rfl) (.c (.c (v' := vB 2) rfl) (.c (.c (v' := vS ([82, 66] : List UInt8)) rfl) .n))) rfl) rfl rfl ?_
  refine lRd (dBuild (cs := [vB (246 : UInt8), vB (6 : UInt8), vS ([82, 77] : List UInt8)]) zer_73 rfl plc_73 (.c (.c (v' := vB 246) rfl) (.c (.c (v' := vB 6) rfl) (.c (.c (v' := vS ([82, 77] : List UInt8)) rfl) .n))) rfl) rfl rfl ?_
  refine lRd (dBuild (cs := [vB (110 : UInt8), vB (14 : UInt8), vS ([82, 77, 65] : List UInt8)]) zer_73 rfl plc_73 (.c (.c (v' := vB 110) rfl) (.c (.c (v' := vB 14) rfl) (.c (.c (v' := vS ([82, 77, 65] : List UInt8)) rfl) .n))) rfl) rfl rfl ?_
  refine lRd (dBuild (cs := [vB (243 : UInt8), vB (17 : UInt8), vS ([87, 83, 70] : List UInt8)]) zer_73 rfl plc_73 (.c (.c (v' := vB 243) rfl) (.c (.c (v' := vB 17) rfl) (.c (.c (v' := vS ([87, 83, 70] : List UInt8)) rfl) .n))) rfl) rfl rfl ?_
  refine lCh (cBuildSliceN (te := 73) (k := k_command_form) (us := [.agg #[vB (241 : UInt8), vB (1 : UInt8), vS ([87] : List UInt8)], .agg #[vB (245 : UInt8), vB (5 : UInt8), vS ([69, 87] : List UInt8)], .agg #[vB (126 : UInt8), vB (13 : UInt8), vS ([69, 87, 65] : List UInt8)], .agg #[vB (111 : UInt8), vB (15 : UInt8), vS ([69, 65, 85] : List UInt8)], .agg #[vB (242 : UInt8), vB (2 : UInt8), vS ([82, 66] : List UInt8)], .agg #[vB (246 : UInt8), vB (6 : UInt8), vS ([82, 77] : List UInt8)], .agg #[vB (110 : UInt8), vB (14 : UInt8), vS ([82, 77, 65] : List UInt8)], .agg #[vB (243 : UInt8), vB (17 : UInt8), vS ([87, 83, 70] : List UInt8)]]) (css := [[vB (241 : UInt8), vB (1 : UInt8), vS ([87] : List UInt8)], [vB (245 : UInt8), vB (5 : UInt8), vS ([69, 87] : List UInt8)], [vB (126 : UInt8), vB (13 : UInt8), vS ([69, 87, 65] : List UInt8)], [vB (111 : UInt8), vB (15 : UInt8), vS ([69, 65, 85] : List UInt8)], [vB (242 : UInt8), vB (2 : UInt8), vS ([82, 66] : List UInt8)], [vB (246 : UInt8), vB (6 : UInt8), vS ([82, 77] : List UInt8)], [vB (110 : UInt8), vB (14 : UInt8), vS ([82, 77, 65] : List UInt8)], [vB (243 : UInt8), vB (17 : UInt8), vS ([87, 83, 70] : List UInt8)]]) (xs := ([(⟨(241 : UInt8), (1 : UInt8), ([87] : List UInt8)⟩ : command_form), (⟨(245 : UInt8), (5 : UInt8), ([69, 87] : List UInt8)⟩ : command_form), (⟨(126 : UInt8), (13 : UInt8), ([69, 87, 65] : List UInt8)⟩ : command_form), (⟨(111 : UInt8), (15 : UInt8), ([69, 65, 85] : List UInt8)⟩ : command_form), (⟨(242 : UInt8), (2 : UInt8), ([82, 66] : List UInt8)⟩ : command_form), (⟨(246 : UInt8), (6 : UInt8), ([82, 77] : List UInt8)⟩ : command_form), (⟨(110 : UInt8), (14 : UInt8), ([82, 77, 65] : List UInt8)⟩ : command_form), (⟨(243 : UInt8), (17 : UInt8), ([87, 83, 70] : List UInt8)⟩ : command_form)] : List command_form)) und_88 siz_73 zer_73 rfl (by decide) rfl (.c (.t (.s (.s (.s (.s (.s (.s (.s .z)))))))) (.c (.t (.s (.s (.s (.s (.s (.s .z))))))) (.c (.t (.s (.s (.s (.s (.s .z)))))) (.c (.t (.s (.s (.s (.s .z))))) (.c (.t (.s (.s (.s .z)))) (.c (.t (.s (.s .z))) (.c (.t (.s .z)) (.c (.t .z) .n)))))))) rfl rfl rfl rfl (fun _ _ _ => (.cons rfl (.cons rfl (.cons rfl (.cons rfl (.cons rfl (.cons rfl (.cons rfl (.cons rfl .nil)))))))))) rfl rfl fun b1 => ?_
  refine lRdK (dAssign (.t .z)) (.k (.k (.k (.k (.k (.k (.k (.k (.k (.d (Keep.refl _))))))))))) rfl rfl ?_
  refine lKeep (.k .n) ?_
  refine lNil ?_
  refine xCode ?_
  refine cRet ?_
  refine rLeave hD ?_
  exact lvRet (rs := [.tmp 0]) rfl (.t .z .n) (.slice (some ⟨b1, 0, none⟩) 8 8) rfl (.c .z .nil)

-- greenscreen/command.find
def command_find_l1 (K : Nat) (a0 : UInt8) (o2 : ((List command_form))) : Nat → (Int) → Option (Sum (Unit) (command_form × Bool))
  | 0, _ => none
  | n + 1, s5 => (if s5 < (o2.length : Int) then (ix o2 s5).bind fun y11 => ((if y11.f_kind = a0 then some true else some (decide (y11.f_short = a0)))).bind fun (s16 : Bool) => (if s16 = true then some (Sum.inr (y11, true)) else (command_find_l1 K a0 o2 n) (w64 (s5 + 1))) else some (Sum.inl ()))
def command_find_m (K : Nat) (a0 : UInt8) : Option (command_form × Bool) := (command_forms_m).bind fun o2 => (command_find_l1 K a0 o2 K 0).bind (onS fun (s19 : Unit) => some ((⟨0, 0, []⟩ : command_form), false))
theorem command_find_c (K : Nat) (a0 : UInt8) : Con Try.prog 28 #[vB a0] [] (command_find_m K a0) (fun (o : command_form × Bool) (x : Unit) => .tuple #[.agg #[vB o.1.f_kind, vB o.1.f_short, vS o.1.f_name], .bool o.2]) (fun (o : command_form × Bool) (x : Unit) => []) := by
  unfold command_find_m
  refine con (args := [vB a0]) Try.func28 rfl 25 rfl (.c .n) rfl fun c hD hrn => ?_
  refine cSeq ?_
  refine cRegion ?_
  refine lCh (cAlloc (cs := [vB 0, vB 0, vS []]) zer_73 rfl) rfl rfl fun b1 => ?_
  refine lRd (dAssign (.c rfl)) rfl rfl ?_
  refine lNil ?_
  refine xCode ?_
  refine cSeq ?_
  refine cSeq ?_
  refine cRegion ?_
  refine lCall fok_42 .n (command_forms_c) .n rfl rfl fun o2 x3 h4 => ?_
  refine lRd (dLen (at_ := #[88]) (slOwn .z) rfl und_88 (.t .z)) rfl rfl ?_
  refine lRd (dMove (.c rfl)) rfl rfl ?_
  refine lNil ?_
  refine xCode ?_
  refine cLoopR (S := Int) (X := Unit) (S' := Unit) (X' := Unit) (command_find_l1 K a0 o2) (fun (s : Int) (x : Unit) => [(8, .int .i64 s), (7, .int .i64 (o2.length : Int)), (6, x3), (3, .bool false), (2, .pointer (some ⟨b1, 0, none⟩)), (0, vB a0)]) (fun (s : Int) (x : Unit) => [.own x3 73 k_command_form o2, .blk b1 [vB 0, vB 0, vS []] 73]) (fun (s : Unit) (x : Unit) => [(3, .bool false), (2, .pointer (some ⟨b1, 0, none⟩))]) (fun (s : Unit) (x : Unit) => [.blk b1 [vB 0, vB 0, vS []] 73]) K 0 () (.c .z (.c (.s .z) (.c (.s (.s .z)) (.c (.s (.s (.s .z))) (.c (.s (.s (.s (.s .z)))) (.c (.s (.s (.s (.s (.s .z))))) .n)))))) (.c .z (.c .z .nil)) (fun _ => rfl) (fun n7 I8 h9 s5 x6 => ?_) (fun s19 x20 => ?_)
  · rw [command_find_l1]
    refine cSeq ?_
    refine cRegion ?_
    refine lRd (dLt (.t .z) (.t (.s .z))) rfl rfl ?_
    refine lNil ?_
    refine xCode ?_
    refine cSeq ?_
    refine cCond (.t .z) (fun h10 => ?_) (fun h10 => ?_)
    · refine cSkip ?_
      refine xCode ?_
      refine cSeq ?_
      refine cBlock ?_
      refine cSeq ?_
      refine cRegion ?_
      refine lIx fun y11 h12 h13 => ?_
      refine lRd (dIxAddr (slOwn .z) und_88 siz_73 (.t (.s (.s (.s .z)))) (.t (.s .z)) h12 h13) rfl rfl ?_
      refine lRd (dLoadEA (us := [vB y11.f_kind, vB y11.f_short, vS y11.f_name]) (slOwn .z) agg_73 siz_73 rfl (.t .z) h13 (fun _ _ h => by cases h; rfl)) rfl rfl ?_
      refine lCh (cAlloc (cs := [vB 0, vB 0, vS []]) zer_73 rfl) rfl rfl fun b14 => ?_
      refine lChU (uStoreA (us := [vB y11.f_kind, vB y11.f_short, vS y11.f_name]) (cs' := [vB y11.f_kind, vB y11.f_short, vS y11.f_name]) .z siz_73 rfl (by intro u hu; simp only [List.mem_cons, List.not_mem_nil, or_false] at hu; rcases hu with rfl | rfl | rfl <;> first | rfl | assumption) rfl (by simp) (.t .z) (.t (.s .z))) ?_
      refine lNil ?_
      refine xCode ?_
      refine cSeq ?_
      refine cJoin (S := Bool) (X := Unit) (fun (s : Bool) (x : Unit) => [(21, .bool s), (16, .bool (decide (y11.f_kind = a0))), (15, .bool (decide (y11.f_kind = a0))), (14, vB a0), (13, vB y11.f_kind), (12, .pointer (some ⟨b14, 0, none⟩)), (5, .pointer (some ⟨b14, 0, none⟩)), (11, .agg #[vB y11.f_kind, vB y11.f_short, vS y11.f_name]), (9, .bool (decide (s5 < (o2.length : Int)))), (8, .int .i64 s5), (7, .int .i64 (o2.length : Int)), (6, x3), (3, .bool false), (2, .pointer (some ⟨b1, 0, none⟩)), (0, vB a0)]) (fun (s : Bool) (x : Unit) => [.blk b14 [vB y11.f_kind, vB y11.f_short, vS y11.f_name] 73, .own x3 73 k_command_form o2, .blk b1 [vB 0, vB 0, vS []] 73]) ?_ (fun s16 x17 => ?_)
      · refine cRegion ?_
        refine lRd (dFld fld_73_0 (by decide) (.t .z) rfl) rfl rfl ?_
        refine lRd (dLoad .z agg_5 (.t .z) rfl) rfl rfl ?_
        refine lRd (dMove (.t (.s (.s (.s (.s (.s (.s (.s (.s (.s (.s (.s .z))))))))))))) rfl rfl ?_
        refine lRd (dEqB (.t (.s .z)) (.t .z)) rfl rfl ?_
        refine lRd (dMove (.t .z)) rfl rfl ?_
        refine lCase (fun h15 => ?_) (fun h15 => ?_)
        · refine lPass rfl .z (nbF (decide_eq_true h15)) rfl ?_
          refine lPass rfl .z (nbF (decide_eq_true h15)) rfl ?_
          refine lPass rfl .z (nbF (decide_eq_true h15)) rfl ?_
          refine lPass rfl .z (nbF (decide_eq_true h15)) rfl ?_
          refine lRd (dPickT (.t .z) (decide_eq_true h15) (.c rfl)) rfl rfl ?_
          refine lNil ?_
          exact xJoin true () (.c .z (.c (.s .z) (.c (.s (.s .z)) (.c (.s (.s (.s .z))) (.c (.s (.s (.s (.s .z)))) (.c (.s (.s (.s (.s (.s .z))))) (.c (.s (.s (.s (.s (.s (.s .z)))))) (.c (.s (.s (.s (.s (.s (.s (.s .z))))))) (.c (.s (.s (.s (.s (.s (.s (.s (.s (.s .z))))))))) (.c (.s (.s (.s (.s (.s (.s (.s (.s (.s (.s .z)))))))))) (.c (.s (.s (.s (.s (.s (.s (.s (.s (.s (.s (.s .z))))))))))) (.c (.s (.s (.s (.s (.s (.s (.s (.s (.s (.s (.s (.s .z)))))))))))) (.c (.s (.s (.s (.s (.s (.s (.s (.s (.s (.s (.s (.s (.s .z))))))))))))) (.c (.s (.s (.s (.s (.s (.s (.s (.s (.s (.s (.s (.s (.s (.s .z)))))))))))))) (.c (.s (.s (.s (.s (.s (.s (.s (.s (.s (.s (.s (.s (.s (.s (.s .z))))))))))))))) .n))))))))))))))) (.c .z (.c .z (.c .z .nil)))
        · refine lRdG rfl .z (decide_eq_false h15) (dFld fld_73_1 (by decide) (.t (.s (.s (.s (.s (.s .z)))))) rfl) rfl rfl ?_
          refine lRdG rfl (.s .z) (decide_eq_false h15) (dLoad .z agg_5 (.t .z) rfl) rfl rfl ?_
          refine lRdG rfl (.s (.s .z)) (decide_eq_false h15) (dMove (.t (.s (.s (.s (.s (.s (.s (.s (.s (.s (.s (.s (.s (.s (.s (.s (.s .z)))))))))))))))))) rfl rfl ?_
          refine lRdG rfl (.s (.s (.s .z))) (decide_eq_false h15) (dEqB (.t (.s .z)) (.t .z)) rfl rfl ?_
          refine lRd (dPickF (.t (.s (.s (.s (.s .z))))) (decide_eq_false h15) (.t .z)) rfl rfl ?_
          refine lNil ?_
          exact xJoin (decide (y11.f_short = a0)) () (.c .z (.c (.s (.s (.s (.s (.s .z))))) (.c (.s (.s (.s (.s (.s (.s .z)))))) (.c (.s (.s (.s (.s (.s (.s (.s .z))))))) (.c (.s (.s (.s (.s (.s (.s (.s (.s .z)))))))) (.c (.s (.s (.s (.s (.s (.s (.s (.s (.s .z))))))))) (.c (.s (.s (.s (.s (.s (.s (.s (.s (.s (.s .z)))))))))) (.c (.s (.s (.s (.s (.s (.s (.s (.s (.s (.s (.s .z))))))))))) (.c (.s (.s (.s (.s (.s (.s (.s (.s (.s (.s (.s (.s (.s .z))))))))))))) (.c (.s (.s (.s (.s (.s (.s (.s (.s (.s (.s (.s (.s (.s (.s .z)))))))))))))) (.c (.s (.s (.s (.s (.s (.s (.s (.s (.s (.s (.s (.s (.s (.s (.s .z))))))))))))))) (.c (.s (.s (.s (.s (.s (.s (.s (.s (.s (.s (.s (.s (.s (.s (.s (.s .z)))))))))))))))) (.c (.s (.s (.s (.s (.s (.s (.s (.s (.s (.s (.s (.s (.s (.s (.s (.s (.s .z))))))))))))))))) (.c (.s (.s (.s (.s (.s (.s (.s (.s (.s (.s (.s (.s (.s (.s (.s (.s (.s (.s .z)))))))))))))))))) (.c (.s (.s (.s (.s (.s (.s (.s (.s (.s (.s (.s (.s (.s (.s (.s (.s (.s (.s (.s .z))))))))))))))))))) .n))))))))))))))) (.c .z (.c .z (.c .z .nil)))
      · refine xCode ?_
        refine cCondB (.t .z) (fun h18 => ?_) (fun h18 => ?_)
        · refine cSeq ?_
          refine cRegion ?_
          refine lRd (dLoadA (us := [vB y11.f_kind, vB y11.f_short, vS y11.f_name]) .z agg_73 siz_73 rfl (.t (.s (.s (.s (.s (.s (.s .z))))))) rfl) rfl rfl ?_
          refine lChU (uStoreA (us := [vB y11.f_kind, vB y11.f_short, vS y11.f_name]) (cs' := [vB y11.f_kind, vB y11.f_short, vS y11.f_name]) (.s (.s .z)) siz_73 rfl (by intro u hu; simp only [List.mem_cons, List.not_mem_nil, or_false] at hu; rcases hu with rfl | rfl | rfl <;> first | rfl | assumption) rfl (by simp) (.t (.s (.s (.s (.s (.s (.s (.s (.s (.s (.s (.s (.s (.s (.s .z))))))))))))))) (.t .z)) ?_
          refine lRdK (dAssign (.c rfl)) (.k (.k (.k (.k (.k (.k (.k (.k (.k (.k (.k (.k (.k (.d (Keep.refl _))))))))))))))) rfl rfl ?_
          refine lNil ?_
          refine xCode ?_
          refine cRet ?_
          refine rInner ?_
          refine rLeave hD ?_
          exact lvRet (rs := [.cell 2 73, .tmp 3]) rfl (.a (.s (.s (.s (.s (.s (.s (.s (.s (.s (.s (.s (.s (.s (.s .z)))))))))))))) (.s (.s .z)) agg_73 siz_73 (.t .z .n)) () rfl .nil
        · refine cSkip ?_
          refine xBlock ?_
          refine xCode ?_
          refine cRegion ?_
          refine lRd (dAddI (.t (.s (.s (.s (.s (.s (.s (.s (.s (.s .z)))))))))) (.c rfl)) rfl rfl ?_
          refine lRdK (dMove (.t .z)) (.k (.k (.k (.k (.k (.k (.k (.k (.k (.k (.d (Keep.refl _)))))))))))) rfl rfl ?_
          refine lNil ?_
          exact xRound h9 (w64 (s5 + 1)) () (.c .z (.c (.s (.s (.s (.s (.s (.s (.s (.s (.s (.s (.s .z))))))))))) (.c (.s (.s (.s (.s (.s (.s (.s (.s (.s (.s (.s (.s .z)))))))))))) (.c (.s (.s (.s (.s (.s (.s (.s (.s (.s (.s (.s (.s (.s .z))))))))))))) (.c (.s (.s (.s (.s (.s (.s (.s (.s (.s (.s (.s (.s (.s (.s .z)))))))))))))) (.c (.s (.s (.s (.s (.s (.s (.s (.s (.s (.s (.s (.s (.s (.s (.s .z))))))))))))))) .n)))))) (.c (.s .z) (.c (.s .z) .nil))
    · refine cExit ?_
      refine xOver ?_
      refine xOverF ?_
      exact xBreakR () () (.c (.s (.s (.s (.s .z)))) (.c (.s (.s (.s (.s (.s .z))))) .n)) (.c (.s .z) .nil)
  · refine xCode ?_
    refine cSeq ?_
    refine cRegion ?_
    refine lRd (dBuild (cs := [vB 0, vB 0, vS []]) zer_73 rfl plc_73 .n rfl) rfl rfl ?_
    refine lChU (uStoreA (us := [vB 0, vB 0, vS []]) (cs' := [vB 0, vB 0, vS []]) .z siz_73 rfl (by intro u hu; simp only [List.mem_cons, List.not_mem_nil, or_false] at hu; rcases hu with rfl | rfl | rfl <;> first | rfl | assumption) rfl (by simp) (.t (.s (.s .z))) (.t .z)) ?_
    refine lRdK (dAssign (.c rfl)) (.k (.d (Keep.refl _))) rfl rfl ?_
    refine lKeep (.k (.d (.k .n))) ?_
    refine lNil ?_
    refine xCode ?_
    refine cRet ?_
    refine rLeave hD ?_
    exact lvRet (rs := [.cell 2 73, .tmp 3]) rfl (.a (.s .z) .z agg_73 siz_73 (.t .z .n)) () rfl .nil

-- greenscreen/command.writes
def command_writes_m (a0 : UInt8) : Option (Bool) := (if a0 = (241 : UInt8) then some true else (if a0 = (245 : UInt8) then some true else some (decide (a0 = (126 : UInt8)))))
theorem command_writes_c (a0 : UInt8) : Con Try.prog 29 #[vB a0] [] (command_writes_m a0) (fun (o : Bool) (x : Unit) => .bool o) (fun (o : Bool) (x : Unit) => []) := by
  unfold command_writes_m
  refine con (args := [vB a0]) Try.func29 rfl 13 rfl (.c .n) rfl fun c hD hrn => ?_
  refine cSeq ?_
  refine cRegion ?_
  refine lRd (dAssign (.c rfl)) rfl rfl ?_
  refine lNil ?_
  refine xCode ?_
  refine cSeq ?_
  refine cRegion ?_
  refine lRd (dMove (.t (.s .z))) rfl rfl ?_
  refine lRd (dEqB (.t .z) (.c (v' := vB 241) rfl)) rfl rfl ?_
  refine lRd (dMove (.t .z)) rfl rfl ?_
  refine lCase (fun h1 => ?_) (fun h1 => ?_)
  · refine lPass rfl .z (nbF (decide_eq_true h1)) rfl ?_
    refine lPass rfl .z (nbF (decide_eq_true h1)) rfl ?_
    refine lRd (dPickT (.t .z) (decide_eq_true h1) (.c rfl)) rfl rfl ?_
    refine lRd (dMove (.t .z)) rfl rfl ?_
    refine lPass rfl .z (nbF rfl) rfl ?_
    refine lPass rfl .z (nbF rfl) rfl ?_
    refine lRd (dPickT (.t .z) rfl (.c rfl)) rfl rfl ?_
    refine lRdK (dAssign (.t .z)) (.k (.k (.k (.k (.k (.k (.d (Keep.refl _)))))))) rfl rfl ?_
    refine lKeep (.k .n) ?_
    refine lNil ?_
    refine xCode ?_
    refine cRet ?_
    refine rLeave hD ?_
    exact lvRet (rs := [.tmp 2]) rfl (.t .z .n) () rfl .nil
  · refine lRdG rfl .z (decide_eq_false h1) (dMove (.t (.s (.s (.s (.s .z)))))) rfl rfl ?_
    refine lRdG rfl (.s .z) (decide_eq_false h1) (dEqB (.t .z) (.c (v' := vB 245) rfl)) rfl rfl ?_
    refine lRd (dPickF (.t (.s (.s .z))) (decide_eq_false h1) (.t .z)) rfl rfl ?_
    refine lRd (dMove (.t .z)) rfl rfl ?_
    refine lCase (fun h2 => ?_) (fun h2 => ?_)
    · refine lPass rfl .z (nbF (decide_eq_true h2)) rfl ?_
      refine lPass rfl .z (nbF (decide_eq_true h2)) rfl ?_
      refine lRd (dPickT (.t .z) (decide_eq_true h2) (.c rfl)) rfl rfl ?_
      refine lRdK (dAssign (.t .z)) (.k (.k (.k (.k (.k (.k (.k (.k (.d (Keep.refl _)))))))))) rfl rfl ?_
      refine lKeep (.k .n) ?_
      refine lNil ?_
      refine xCode ?_
      refine cRet ?_
      refine rLeave hD ?_
      exact lvRet (rs := [.tmp 2]) rfl (.t .z .n) () rfl .nil
    · refine lRdG rfl .z (decide_eq_false h2) (dMove (.t (.s (.s (.s (.s (.s (.s (.s (.s .z)))))))))) rfl rfl ?_
      refine lRdG rfl (.s .z) (decide_eq_false h2) (dEqB (.t .z) (.c (v' := vB 126) rfl)) rfl rfl ?_
      refine lRd (dPickF (.t (.s (.s .z))) (decide_eq_false h2) (.t .z)) rfl rfl ?_
      refine lRdK (dAssign (.t .z)) (.k (.k (.k (.k (.k (.k (.k (.k (.k (.k (.d (Keep.refl _)))))))))))) rfl rfl ?_
      refine lKeep (.k .n) ?_
      refine lNil ?_
      refine xCode ?_
      refine cRet ?_
      refine rLeave hD ?_
      exact lvRet (rs := [.tmp 2]) rfl (.t .z .n) () rfl .nil

-- greenscreen/order.Plain
def order_Plain_m (a0 : UInt8) : Option (Bool) := ((if a0 = (0 : UInt8) then some (decide (a0 = (0 : UInt8))) else (if a0 = (12 : UInt8) then some (decide (a0 = (12 : UInt8))) else (if a0 = (13 : UInt8) then some (decide (a0 = (13 : UInt8))) else (if a0 = (21 : UInt8) then some (decide (a0 = (21 : UInt8))) else (if a0 = (25 : UInt8) then some (decide (a0 = (25 : UInt8))) else (if a0 = (28 : UInt8) then some (decide (a0 = (28 : UInt8))) else (if a0 = (30 : UInt8) then some (decide (a0 = (30 : UInt8))) else some (decide (a0 = (63 : UInt8))))))))))).bind fun (s8 : Bool) => (if s8 = true then some true else some (decide (a0 ≥ (64 : UInt8))))
theorem order_Plain_c (a0 : UInt8) : Con Try.prog 60 #[vB a0] [] (order_Plain_m a0) (fun (o : Bool) (x : Unit) => .bool o) (fun (o : Bool) (x : Unit) => []) := by
  unfold order_Plain_m
  refine con (args := [vB a0]) Try.func60 rfl 15 rfl (.c .n) rfl fun c hD hrn => ?_
  refine cSeq ?_
  refine cRegion ?_
  refine lRd (dAssign (.c rfl)) rfl rfl ?_
  refine lNil ?_
  refine xCode ?_
  refine cSeq ?_
  refine cSeq ?_
  refine cRegion ?_
  refine lRd (dMove (.t (.s .z))) rfl rfl ?_
  refine lNil ?_
  refine xCode ?_
  refine cBlock ?_
  refine cSeq ?_
  refine cSeq ?_
  refine cRegion ?_
  refine lRd (dEqB (.t .z) (.c (v' := vB 0) rfl)) rfl rfl ?_
  refine lRd (dAssign (.t .z)) rfl rfl ?_
  refine lKeep (.k (.d (.k (.k (.k .n))))) ?_
  refine lNil ?_
  refine xCode ?_
  refine cJoin (S := Bool) (X := Unit) (fun (s : Bool) (x : Unit) => [(4, .bool s), (2, .bool false), (0, vB a0)]) (fun (s : Bool) (x : Unit) => []) ?_ (fun s8 x9 => ?_)
  · refine cCond (.t .z) (fun h1 => ?_) (fun h1 => ?_)
    · refine cSkip ?_
      exact xJoin (decide (a0 = (0 : UInt8))) () (.c .z (.c (.s (.s .z)) (.c (.s (.s (.s .z))) .n))) .nil
    · refine cSeq ?_
      refine cRegion ?_
      refine lRd (dEqB (.t (.s .z)) (.c (v' := vB 12) rfl)) rfl rfl ?_
      refine lRdK (dAssign (.t .z)) (.k (.d (Keep.refl _))) rfl rfl ?_
      refine lKeep (.k (.d (.k (.k (.k .n))))) ?_
      refine lNil ?_
      refine xCode ?_
      refine cCond (.t .z) (fun h2 => ?_) (fun h2 => ?_)
      · refine cSkip ?_
        exact xJoin (decide (a0 = (12 : UInt8))) () (.c .z (.c (.s (.s .z)) (.c (.s (.s (.s .z))) .n))) .nil
      · refine cSeq ?_
        refine cRegion ?_
        refine lRd (dEqB (.t (.s .z)) (.c (v' := vB 13) rfl)) rfl rfl ?_
        refine lRdK (dAssign (.t .z)) (.k (.d (Keep.refl _))) rfl rfl ?_
        refine lKeep (.k (.d (.k (.k (.k .n))))) ?_
        refine lNil ?_
        refine xCode ?_
        refine cCond (.t .z) (fun h3 => ?_) (fun h3 => ?_)
        · refine cSkip ?_
          exact xJoin (decide (a0 = (13 : UInt8))) () (.c .z (.c (.s (.s .z)) (.c (.s (.s (.s .z))) .n))) .nil
        · refine cSeq ?_
          refine cRegion ?_
          refine lRd (dEqB (.t (.s .z)) (.c (v' := vB 21) rfl)) rfl rfl ?_
          refine lRdK (dAssign (.t .z)) (.k (.d (Keep.refl _))) rfl rfl ?_
          refine lKeep (.k (.d (.k (.k (.k .n))))) ?_
          refine lNil ?_
          refine xCode ?_
          refine cCond (.t .z) (fun h4 => ?_) (fun h4 => ?_)
          · refine cSkip ?_
            exact xJoin (decide (a0 = (21 : UInt8))) () (.c .z (.c (.s (.s .z)) (.c (.s (.s (.s .z))) .n))) .nil
          · refine cSeq ?_
            refine cRegion ?_
            refine lRd (dEqB (.t (.s .z)) (.c (v' := vB 25) rfl)) rfl rfl ?_
            refine lRdK (dAssign (.t .z)) (.k (.d (Keep.refl _))) rfl rfl ?_
            refine lKeep (.k (.d (.k (.k (.k .n))))) ?_
            refine lNil ?_
            refine xCode ?_
            refine cCond (.t .z) (fun h5 => ?_) (fun h5 => ?_)
            · refine cSkip ?_
              exact xJoin (decide (a0 = (25 : UInt8))) () (.c .z (.c (.s (.s .z)) (.c (.s (.s (.s .z))) .n))) .nil
            · refine cSeq ?_
              refine cRegion ?_
              refine lRd (dEqB (.t (.s .z)) (.c (v' := vB 28) rfl)) rfl rfl ?_
              refine lRdK (dAssign (.t .z)) (.k (.d (Keep.refl _))) rfl rfl ?_
              refine lKeep (.k (.d (.k (.k (.k .n))))) ?_
              refine lNil ?_
              refine xCode ?_
              refine cCond (.t .z) (fun h6 => ?_) (fun h6 => ?_)
              · refine cSkip ?_
                exact xJoin (decide (a0 = (28 : UInt8))) () (.c .z (.c (.s (.s .z)) (.c (.s (.s (.s .z))) .n))) .nil
              · refine cSeq ?_
                refine cRegion ?_
                refine lRd (dEqB (.t (.s .z)) (.c (v' := vB 30) rfl)) rfl rfl ?_
                refine lRdK (dAssign (.t .z)) (.k (.d (Keep.refl _))) rfl rfl ?_
                refine lKeep (.k (.d (.k (.k (.k .n))))) ?_
                refine lNil ?_
                refine xCode ?_
                refine cCond (.t .z) (fun h7 => ?_) (fun h7 => ?_)
                · refine cSkip ?_
                  exact xJoin (decide (a0 = (30 : UInt8))) () (.c .z (.c (.s (.s .z)) (.c (.s (.s (.s .z))) .n))) .nil
                · refine cRegion ?_
                  refine lRd (dEqB (.t (.s .z)) (.c (v' := vB 63) rfl)) rfl rfl ?_
                  refine lRdK (dAssign (.t .z)) (.k (.d (Keep.refl _))) rfl rfl ?_
                  refine lKeep (.k (.d (.d (.k (.k .n))))) ?_
                  refine lNil ?_
                  exact xJoin (decide (a0 = (63 : UInt8))) () (.c .z (.c (.s .z) (.c (.s (.s .z)) .n))) .nil
  · refine xCode ?_
    refine cCondB (.t .z) (fun h10 => ?_) (fun h10 => ?_)
    · refine cSeq ?_
      refine cRegion ?_
      refine lRdK (dAssign (.c rfl)) (.k (.d (Keep.refl _))) rfl rfl ?_
      refine lKeep (.k (.d (.k .n))) ?_
      refine lNil ?_
      refine xCode ?_
      refine cRet ?_
      refine rLeave hD ?_
      exact lvRet (rs := [.tmp 2]) rfl (.t .z .n) () rfl .nil
    · refine cSkip ?_
      refine xBlock ?_
      refine xCode ?_
      refine cSeq ?_
      refine cRegion ?_
      refine lRd (dMove (.t (.s (.s .z)))) rfl rfl ?_
      refine lRd (dGeB (.t .z) (.c (v' := vB 64) rfl)) rfl rfl ?_
      refine lRdK (dAssign (.t .z)) (.k (.k (.k (.d (Keep.refl _))))) rfl rfl ?_
      refine lKeep (.k .n) ?_
      refine lNil ?_
      refine xCode ?_
      refine cRet ?_
      refine rLeave hD ?_
      exact lvRet (rs := [.tmp 2]) rfl (.t .z .n) () rfl .nil

-- slices.Clone[[]byte,byte]
def slices_Clone_byte_byte_m (a0 : (List UInt8)) : Option ((List UInt8)) := (app ([] : List UInt8) a0).bind fun zs4 => some zs4
theorem slices_Clone_byte_byte_c (a0 : (List UInt8)) (v0_0 : Value) : Con Try.prog 76 #[v0_0] [.ro (kSl kB) [v0_0] a0] (slices_Clone_byte_byte_m a0) (fun (o : (List UInt8)) (x : Value) => x) (fun (o : (List UInt8)) (x : Value) => [.own x 5 kB o]) := by
  unfold slices_Clone_byte_byte_m
  refine con (args := [v0_0]) Try.func76 rfl 8 rfl (.c .n) rfl fun c hD hrn => ?_
  refine cSeq ?_
  refine cRegion ?_
  refine lRd (dAssign (.c rfl)) rfl rfl ?_
  refine lNil ?_
  refine xCode ?_
  refine cSeq ?_
  refine cSeq ?_
  refine cRegion ?_
  refine lRd (dMove (.t (.s .z))) rfl rfl ?_
  refine lRd (dSlEqNil (slRo .z) und_34 (.t .z) (.c rfl)) rfl rfl ?_
  refine lKeep (.k (.d (.k (.k .n)))) ?_
  refine lNil ?_
  refine xCode ?_
  refine cCondN (.t .z) (fun h1 => ?_) (fun h1 => ?_)
  · refine cFact (nilFact (slRo .z) (by simpa using h1)) fun h2 => ?_
    refine cEq (m' := (some [])) (by rw [h2]; rfl) ?_
    refine cSeq ?_
    refine cRegion ?_
    refine lRdK (dAssign (.c rfl)) (.k (.d (Keep.refl _))) rfl rfl ?_
    refine lKeep (.k (.d (.k .n))) ?_
    refine lNil ?_
    refine xCode ?_
    refine cRet ?_
    refine rLeave hD ?_
    refine lvSt (ownNil 5 kB) ?_
    exact lvRet (rs := [.tmp 2]) rfl (.t .z .n) (.slice none 0 0) rfl (.c .z .nil)
  · refine cSkip ?_
    refine xCode ?_
    refine cSeq ?_
    refine cRegion ?_
    refine lCh (cBuildSlice (te := 5) (k := kB) (css := []) (xs := ([] : List UInt8)) und_34 siz_5 zer_5 rfl (by decide) rfl .n rfl (fun zs h => by have : zs = [] := List.eq_nil_of_length_eq_zero h; subst this; rfl) rfl (fun _ _ _ => .nil)) rfl rfl fun b3 => ?_
    refine lRd (dMove (.t (.s (.s (.s .z))))) rfl rfl ?_
    refine lBind fun zs4 h5 => ?_
    refine lCh (cAppend (xs := ([] : List UInt8)) (ys := a0) .z (srcRo .z) (.t (.s .z)) (.t .z) und_34 und_34 rfl inf_5 rfl (by decide) h5) rfl rfl fun v6 => ?_
    refine lRdK (dAssign (.t .z)) (.k (.k (.k (.k (.d (Keep.refl _)))))) rfl rfl ?_
    refine lKeep (.k .n) ?_
    refine lNil ?_
    refine xCode ?_
    refine cRet ?_
    refine rLeave hD ?_
    exact lvRet (rs := [.tmp 2]) rfl (.t .z .n) v6 rfl (.c .z .nil)

-- (*greenscreen/order.parser).data
def order_parser_data_l1 (K : Nat) (a0 : order_parser) : Nat → (Int) → Option (Int)
  | 0, _ => none
  | n + 1, s2 => ((if s2 < (a0.f_b.length : Int) then (ix a0.f_b s2).bind fun y8 => (order_Plain_m y8).bind fun o11 => some o11 else some false)).bind fun (s14 : Bool) => (if s14 = true then (order_parser_data_l1 K a0 n) (w64 (s2 + 1)) else some s2)
def order_parser_data_m (K : Nat) (a0 : order_parser) : Option (order_parser × api_Order) := (order_parser_data_l1 K a0 K a0.f_at).bind fun (s17 : Int) => (sub a0.f_b a0.f_at s17).bind fun r19 => (slices_Clone_byte_byte_m r19).bind fun o21 => some ((⟨a0.f_b, s17⟩ : order_parser), (⟨(0 : UInt8), 0, 0, false, [], o21⟩ : api_Order))
theorem order_parser_data_c (K : Nat) (a0 : order_parser) (b0_0 : Nat) (v0_1 : Value) : Con Try.prog 61 #[.pointer (some ⟨b0_0, 0, none⟩)] [.blk b0_0 [v0_1, .int .i64 a0.f_at] 92, .ro (kSl kB) [v0_1] a0.f_b] (order_parser_data_m K a0) (fun (o : order_parser × api_Order) (x : Value × Value) => .agg #[vB o.2.f_Kind, .int .i64 o.2.f_Addr, vB o.2.f_Byte, .bool o.2.f_GE, x.1, x.2]) (fun (o : order_parser × api_Order) (x : Value × Value) => [.blk b0_0 [v0_1, .int .i64 o.1.f_at] 92, .ro (kSl kB) [v0_1] o.1.f_b, .ro (kSl k_api_Pair) [x.1] o.2.f_Pairs, .ro (kSl kB) [x.2] o.2.f_Data]) := by
  unfold order_parser_data_m
  refine con (args := [.pointer (some ⟨b0_0, 0, none⟩)]) Try.func61 rfl 50 rfl (.c .n) rfl fun c hD hrn => ?_
  refine cSeq ?_
  refine cRegion ?_
  refine lCh (cAlloc (cs := [vB 0, .int .i64 0, vB 0, .bool false, .slice none 0 0, .slice none 0 0]) zer_97 rfl) rfl rfl fun b1 => ?_
  refine lNil ?_
  refine xCode ?_
  refine cSeq ?_
  refine cRegion ?_
  refine lRd (dMove (.t (.s .z))) rfl rfl ?_
  refine lRd (dNil (.t .z)) rfl rfl ?_
  refine lRd (dFld fld_92_1 (by decide) (.t .z) rfl) rfl rfl ?_
  refine lRd (dLoad (.s .z) agg_3 (.t .z) rfl) rfl rfl ?_
  refine lRd (dAssign (.t .z)) rfl rfl ?_
  refine lKeep (.k (.d (.d (.d (.d (.k (.k .n))))))) ?_
  refine lNil ?_
  refine xCode ?_
  refine cSeq ?_
  refine cLoopB (S := Int) (X := Unit) (S' := Int) (X' := Unit) (order_parser_data_l1 K a0) (fun (s : Int) (x : Unit) => [(3, .int .i64 a0.f_at), (2, .pointer (some ⟨b1, 0, none⟩)), (0, .pointer (some ⟨b0_0, 0, none⟩))]) (fun (s : Int) (x : Unit) => [.blk b1 [vB 0, .int .i64 0, vB 0, .bool false, .slice none 0 0, .slice none 0 0] 97, .blk b0_0 [v0_1, .int .i64 s] 92, .ro (kSl kB) [v0_1] a0.f_b]) (fun (s : Int) (x : Unit) => [(3, .int .i64 a0.f_at), (2, .pointer (some ⟨b1, 0, none⟩)), (0, .pointer (some ⟨b0_0, 0, none⟩))]) (fun (s : Int) (x : Unit) => [.blk b1 [vB 0, .int .i64 0, vB 0, .bool false, .slice none 0 0, .slice none 0 0] 97, .blk b0_0 [v0_1, .int .i64 s] 92, .ro (kSl kB) [v0_1] a0.f_b]) K a0.f_at () (.c .z (.c (.s .z) (.c (.s (.s .z)) .n))) (.c .z (.c .z (.c .z .nil))) (fun _ => rfl) (fun n4 I5 h6 s2 x3 => ?_) (fun s17 x18 => ?_)
  · rw [order_parser_data_l1]
    refine cSeq ?_
    refine cSeq ?_
    refine cJoin (S := Bool) (X := Unit) (fun (s : Bool) (x : Unit) => [(30, .bool s), (18, .bool (decide (s2 < (a0.f_b.length : Int)))), (17, .bool (decide (s2 < (a0.f_b.length : Int)))), (16, .int .i64 (a0.f_b.length : Int)), (15, v0_1), (14, .pointer (some ⟨b0_0, 0, none⟩)), (13, .pointer (some ⟨b0_0, 0, none⟩)), (12, .pointer (some ⟨b0_0, 0, none⟩)), (11, .int .i64 s2), (10, .pointer (some ⟨b0_0, 1, none⟩)), (9, .pointer (some ⟨b0_0, 0, none⟩)), (8, .pointer (some ⟨b0_0, 0, none⟩)), (3, .int .i64 a0.f_at), (2, .pointer (some ⟨b1, 0, none⟩)), (0, .pointer (some ⟨b0_0, 0, none⟩))]) (fun (s : Bool) (x : Unit) => [.blk b1 [vB 0, .int .i64 0, vB 0, .bool false, .slice none 0 0, .slice none 0 0] 97, .blk b0_0 [v0_1, .int .i64 s2] 92, .ro (kSl kB) [v0_1] a0.f_b]) ?_ (fun s14 x15 => ?_)
    · refine cRegionM [] [(0, .early), (1, .early), (2, .early), (3, .early), (4, .early), (5, .early), (6, .early), (7, .early), (8, .early), (9, .early), (10, .early), (11, .early), (12, .early), (13, .early), (14, .early), (15, .early), (16, .early), (17, .early), (18, .early), (19, .early), (20, .early), (21, .early), (22, .early)] mixed (by kernel_rfl) (.c .z (.c .z (.c .z .nil))) (.c (.c (.c .n))) ?_
      refine mRd rfl rfl (fun _ _ _ => dMove (.t (.s (.s .z)))) rfl rfl ?_
      refine mRd rfl rfl (fun _ _ _ => dNil (.t .z)) rfl rfl ?_
      refine mRd rfl rfl (fun _ _ _ => dFld fld_92_1 (by decide) (.t .z) rfl) rfl rfl ?_
      refine mRd rfl rfl (fun _ _ _ => dLoad (.s .z) agg_3 (.t .z) rfl) rfl rfl ?_
      refine mRd rfl rfl (fun _ _ _ => dMove (.t (.s (.s (.s (.s (.s (.s .z)))))))) rfl rfl ?_
      refine mRd rfl rfl (fun _ _ _ => dNil (.t .z)) rfl rfl ?_
      refine mRd rfl rfl (fun _ _ _ => dFld fld_92_0 (by decide) (.t .z) rfl) rfl rfl ?_
      refine mRd rfl rfl (fun _ _ _ => dLoad (.s .z) agg_34 (.t .z) rfl) rfl rfl ?_
      refine mRd rfl rfl (fun _ _ _ => dLen (at_ := #[34]) (slRo (.s (.s .z))) rfl und_34 (.t .z)) rfl rfl ?_
      refine mRd rfl rfl (fun _ _ _ => dLt (.t (.s (.s (.s (.s (.s .z)))))) (.t .z)) rfl rfl ?_
      refine mRd rfl rfl (fun _ _ _ => dMove (.t .z)) rfl rfl ?_
      refine mCase (fun h7 => ?_) (fun h7 => ?_)
      · refine mRdG rfl rfl rfl .z (decide_eq_true h7) (fun _ _ _ => dMove (.t (.s (.s (.s (.s (.s (.s (.s (.s (.s (.s (.s (.s (.s .z))))))))))))))) rfl rfl ?_
        refine mRdG rfl rfl rfl (.s .z) (decide_eq_true h7) (fun _ _ _ => dNil (.t .z)) rfl rfl ?_
        refine mRdG rfl rfl rfl (.s (.s .z)) (decide_eq_true h7) (fun _ _ _ => dFld fld_92_0 (by decide) (.t .z) rfl) rfl rfl ?_
        refine mRdG rfl rfl rfl (.s (.s (.s .z))) (decide_eq_true h7) (fun _ _ _ => dLoad (.s .z) agg_34 (.t .z) rfl) rfl rfl ?_
        refine mRdG rfl rfl rfl (.s (.s (.s (.s .z)))) (decide_eq_true h7) (fun _ _ _ => dMove (.t (.s (.s (.s (.s (.s (.s (.s (.s (.s (.s (.s (.s (.s (.s (.s (.s (.s .z))))))))))))))))))) rfl rfl ?_
        refine mRdG rfl rfl rfl (.s (.s (.s (.s (.s .z))))) (decide_eq_true h7) (fun _ _ _ => dNil (.t .z)) rfl rfl ?_
        refine mRdG rfl rfl rfl (.s (.s (.s (.s (.s (.s .z)))))) (decide_eq_true h7) (fun _ _ _ => dFld fld_92_1 (by decide) (.t .z) rfl) rfl rfl ?_
        refine mRdG rfl rfl rfl (.s (.s (.s (.s (.s (.s (.s .z))))))) (decide_eq_true h7) (fun _ _ _ => dLoad (.s .z) agg_3 (.t .z) rfl) rfl rfl ?_
        refine mIx fun y8 h9 h10 => ?_
        refine mRdG rfl rfl rfl (.s (.s (.s (.s (.s (.s (.s (.s .z)))))))) (decide_eq_true h7) (fun _ _ _ => dIxAddr (slRo (.s (.s .z))) und_34 siz_5 (.t (.s (.s (.s (.s .z))))) (.t .z) h9 h10) rfl rfl ?_
        refine mRdG rfl rfl rfl (.s (.s (.s (.s (.s (.s (.s (.s (.s .z))))))))) (decide_eq_true h7) (fun _ _ _ => dLoadE (slRo (.s (.s .z))) agg_5 (.t .z) h10 (fun _ _ h => by cases h; rfl)) rfl rfl ?_
        refine mCallQG rfl rfl rfl (.s (.s (.s (.s (.s (.s (.s (.s (.s (.s .z)))))))))) (decide_eq_true h7) fok_60 (.c (.t .z) .n) (order_Plain_c y8) .n (fun _ _ => rfl) (fun _ _ => (.c .z (.c .z (.c .z .nil)))) rfl rfl fun o11 h13 => ?_
        refine mRd rfl rfl (fun _ _ _ => dPickT (.t (.s (.s (.s (.s (.s (.s (.s (.s (.s (.s (.s .z)))))))))))) (decide_eq_true h7) (.t .z)) rfl rfl ?_
        refine mNil ?_
        exact xJoin o11 () (.c .z (.c (.s (.s (.s (.s (.s (.s (.s (.s (.s (.s (.s (.s .z)))))))))))) (.c (.s (.s (.s (.s (.s (.s (.s (.s (.s (.s (.s (.s (.s .z))))))))))))) (.c (.s (.s (.s (.s (.s (.s (.s (.s (.s (.s (.s (.s (.s (.s .z)))))))))))))) (.c (.s (.s (.s (.s (.s (.s (.s (.s (.s (.s (.s (.s (.s (.s (.s .z))))))))))))))) (.c (.s (.s (.s (.s (.s (.s (.s (.s (.s (.s (.s (.s (.s (.s (.s (.s .z)))))))))))))))) (.c (.s (.s (.s (.s (.s (.s (.s (.s (.s (.s (.s (.s (.s (.s (.s (.s (.s .z))))))))))))))))) (.c (.s (.s (.s (.s (.s (.s (.s (.s (.s (.s (.s (.s (.s (.s (.s (.s (.s (.s .z)))))))))))))))))) (.c (.s (.s (.s (.s (.s (.s (.s (.s (.s (.s (.s (.s (.s (.s (.s (.s (.s (.s (.s .z))))))))))))))))))) (.c (.s (.s (.s (.s (.s (.s (.s (.s (.s (.s (.s (.s (.s (.s (.s (.s (.s (.s (.s (.s .z)))))))))))))))))))) (.c (.s (.s (.s (.s (.s (.s (.s (.s (.s (.s (.s (.s (.s (.s (.s (.s (.s (.s (.s (.s (.s .z))))))))))))))))))))) (.c (.s (.s (.s (.s (.s (.s (.s (.s (.s (.s (.s (.s (.s (.s (.s (.s (.s (.s (.s (.s (.s (.s .z)))))))))))))))))))))) (.c (.s (.s (.s (.s (.s (.s (.s (.s (.s (.s (.s (.s (.s (.s (.s (.s (.s (.s (.s (.s (.s (.s (.s .z))))))))))))))))))))))) (.c (.s (.s (.s (.s (.s (.s (.s (.s (.s (.s (.s (.s (.s (.s (.s (.s (.s (.s (.s (.s (.s (.s (.s (.s .z)))))))))))))))))))))))) (.c (.s (.s (.s (.s (.s (.s (.s (.s (.s (.s (.s (.s (.s (.s (.s (.s (.s (.s (.s (.s (.s (.s (.s (.s (.s .z))))))))))))))))))))))))) .n))))))))))))))) (.c .z (.c .z (.c .z .nil)))
      · refine mPass rfl rfl rfl .z (nbT (decide_eq_false h7)) rfl ?_
        refine mPass rfl rfl rfl .z (nbT (decide_eq_false h7)) rfl ?_
        refine mPass rfl rfl rfl .z (nbT (decide_eq_false h7)) rfl ?_
        refine mPass rfl rfl rfl .z (nbT (decide_eq_false h7)) rfl ?_
        refine mPass rfl rfl rfl .z (nbT (decide_eq_false h7)) rfl ?_
        refine mPass rfl rfl rfl .z (nbT (decide_eq_false h7)) rfl ?_
        refine mPass rfl rfl rfl .z (nbT (decide_eq_false h7)) rfl ?_
        refine mPass rfl rfl rfl .z (nbT (decide_eq_false h7)) rfl ?_
        refine mPass rfl rfl rfl .z (nbT (decide_eq_false h7)) rfl ?_
        refine mPass rfl rfl rfl .z (nbT (decide_eq_false h7)) rfl ?_
        refine mPass rfl rfl rfl .z (nbT (decide_eq_false h7)) rfl ?_
        refine mRd rfl rfl (fun _ _ _ => dPickF (.t .z) (decide_eq_false h7) (.c rfl)) rfl rfl ?_
        refine mNil ?_
        exact xJoin false () (.c .z (.c (.s .z) (.c (.s (.s .z)) (.c (.s (.s (.s .z))) (.c (.s (.s (.s (.s .z)))) (.c (.s (.s (.s (.s (.s .z))))) (.c (.s (.s (.s (.s (.s (.s .z)))))) (.c (.s (.s (.s (.s (.s (.s (.s .z))))))) (.c (.s (.s (.s (.s (.s (.s (.s (.s .z)))))))) (.c (.s (.s (.s (.s (.s (.s (.s (.s (.s .z))))))))) (.c (.s (.s (.s (.s (.s (.s (.s (.s (.s (.s .z)))))))))) (.c (.s (.s (.s (.s (.s (.s (.s (.s (.s (.s (.s .z))))))))))) (.c (.s (.s (.s (.s (.s (.s (.s (.s (.s (.s (.s (.s .z)))))))))))) (.c (.s (.s (.s (.s (.s (.s (.s (.s (.s (.s (.s (.s (.s .z))))))))))))) (.c (.s (.s (.s (.s (.s (.s (.s (.s (.s (.s (.s (.s (.s (.s .z)))))))))))))) .n))))))))))))))) (.c .z (.c .z (.c .z .nil)))
    · refine xCode ?_
      refine cCondB (.t .z) (fun h16 => ?_) (fun h16 => ?_)
      · refine cSkip ?_
        refine xCode ?_
        refine cBlock ?_
        refine cRegion ?_
        refine lRd (dMove (.t (.s (.s (.s (.s (.s (.s (.s (.s (.s (.s (.s (.s (.s (.s .z)))))))))))))))) rfl rfl ?_
        refine lRd (dNil (.t .z)) rfl rfl ?_
        refine lRd (dFld fld_92_1 (by decide) (.t .z) rfl) rfl rfl ?_
        refine lRd (dLoad (.s .z) agg_3 (.t .z) rfl) rfl rfl ?_
        refine lRd (dAddI (.t .z) (.c rfl)) rfl rfl ?_
        refine lRd (dNil (.t (.s (.s (.s (.s .z)))))) rfl rfl ?_
        refine lRd (dFld fld_92_1 (by decide) (.t .z) rfl) rfl rfl ?_
        refine lChU (uStore (.s .z) siz_3 rfl (.s .z) (.t .z) (.t (.s (.s .z)))) ?_
        refine lNil ?_
        refine xBlock ?_
        exact xRound h6 (w64 (s2 + 1)) () (.c (.s (.s (.s (.s (.s (.s (.s (.s (.s (.s (.s (.s (.s (.s (.s (.s (.s (.s (.s .z))))))))))))))))))) (.c (.s (.s (.s (.s (.s (.s (.s (.s (.s (.s (.s (.s (.s (.s (.s (.s (.s (.s (.s (.s .z)))))))))))))))))))) (.c (.s (.s (.s (.s (.s (.s (.s (.s (.s (.s (.s (.s (.s (.s (.s (.s (.s (.s (.s (.s (.s .z))))))))))))))))))))) .n))) (.c .z (.c .z (.c .z .nil)))
      · refine cExit ?_
        refine xOver ?_
        refine xOverF ?_
        exact xJoin s2 () (.c (.s (.s (.s (.s (.s (.s (.s (.s (.s (.s (.s (.s .z)))))))))))) (.c (.s (.s (.s (.s (.s (.s (.s (.s (.s (.s (.s (.s (.s .z))))))))))))) (.c (.s (.s (.s (.s (.s (.s (.s (.s (.s (.s (.s (.s (.s (.s .z)))))))))))))) .n))) (.c .z (.c .z (.c .z .nil)))
  · refine xCode ?_
    refine cSeq ?_
    refine cRegionM [10, 12] [(0, .early), (1, .early), (2, .early), (3, .early), (4, .early), (5, .early), (6, .early), (7, .early), (8, .early), (9, .early), (10, .only), (11, .quiet), (12, .only)] mixed (by kernel_rfl) (.c (.s .z) (.c (.s .z) (.c .z .nil))) (.c (.c .n)) ?_
    refine mRd rfl rfl (fun _ _ _ => dMove (.t (.s (.s .z)))) rfl rfl ?_
    refine mRd rfl rfl (fun _ _ _ => dNil (.t .z)) rfl rfl ?_
    refine mRd rfl rfl (fun _ _ _ => dFld fld_92_0 (by decide) (.t .z) rfl) rfl rfl ?_
    refine mRd rfl rfl (fun _ _ _ => dLoad .z agg_34 (.t .z) rfl) rfl rfl ?_
    refine mRd rfl rfl (fun _ _ _ => dMove (.t (.s (.s (.s (.s .z)))))) rfl rfl ?_
    refine mRd rfl rfl (fun _ _ _ => dMove (.t (.s (.s (.s (.s (.s (.s (.s .z))))))))) rfl rfl ?_
    refine mRd rfl rfl (fun _ _ _ => dNil (.t .z)) rfl rfl ?_
    refine mRd rfl rfl (fun _ _ _ => dFld fld_92_1 (by decide) (.t .z) rfl) rfl rfl ?_
    refine mRd rfl rfl (fun _ _ _ => dLoad .z agg_3 (.t .z) rfl) rfl rfl ?_
    refine mBind fun r19 h20 => ?_
    refine mSt' (roSub (.s .z) h20) ?_
    refine mSt' (fun w => Sub.st (.c (.s .z) (.c (.s .z) (.c (.s .z) (.c .z .nil))))) ?_
    refine mRd rfl rfl (fun _ _ _ => dSlice (ys := r19) (slRo (.s .z)) und_34 siz_5 (.t (.s (.s (.s (.s (.s .z)))))) ⟨_, (.t (.s (.s (.s (.s .z)))))⟩ ⟨_, (.t .z)⟩ h20) rfl rfl ?_
    refine mCallF rfl rfl fok_76 (.c (.t .z) .n) (slices_Clone_byte_byte_c r19 (slc v0_1 (kB).n (Int.toNat a0.f_at) (Int.toNat s17))) (.r (.s (.s (.s .z))) .n) (fun o21 x22 => (.c (.s .z) (.c (.s .z) (.c .z (.c .z (.c .z .nil)))))) (fun _ _ => (.c (.c .n))) rfl rfl (fun _ _ => oneOwn (.s (.s .z))) fun o21 x22 h23 h24 => ?_
    refine mSt' (SX.freeze (Upd.s (Upd.s Upd.z))) ?_
    refine mRd rfl rfl (fun _ _ _ => dBuild (cs := [vB (0 : UInt8), .int .i64 0, vB 0, .bool false, .slice none 0 0, x22]) zer_97 rfl plc_97 (.c (.c (v' := vB 0) rfl) (.c (.t .z) .n)) (by simp only [fillL, cells_one h24] <;> rfl)) rfl rfl ?_
    refine mChU rfl rfl (uStoreA (us := [vB (0 : UInt8), .int .i64 0, vB 0, .bool false, .slice none 0 0, x22]) (cs' := [vB (0 : UInt8), .int .i64 0, vB 0, .bool false, .slice none 0 0, x22]) (.s (.s (.s .z))) siz_97 rfl (by intro u hu; simp only [List.mem_cons, List.not_mem_nil, or_false] at hu; rcases hu with rfl | rfl | rfl | rfl | rfl | rfl <;> first | rfl | assumption) rfl (by simp) (.t (.s (.s (.s (.s (.s (.s (.s (.s (.s (.s (.s (.s (.s .z)))))))))))))) (.t .z)) (.c .z (.c .z (.c .z (.c .z (.c .z .nil))))) (.c (.c .n)) ?_
    refine mKeep (.d (.d (.d (.d (.d (.d (.d (.d (.d (.d (.d (.d (.d (.k .n)))))))))))))) ?_
    refine mNil ?_
    refine xCode ?_
    refine cRet ?_
    refine rLeave hD ?_
    refine lvSt (roNil k_api_Pair) ?_
    exact lvRet (rs := [.cell 2 97]) rfl (.a .z (.s (.s (.s (.s .z)))) agg_97 siz_97 .n) (.slice none 0 0, x22) rfl (.c (.s .z) (.c (.s .z) (.c .z (.c .z .nil))))

-- (*greenscreen/order.parser).next
def order_parser_next_m (a0 : order_parser) : Option (Sum (order_parser × UInt8) (order_parser × Int)) := (if a0.f_at ≥ (a0.f_b.length : Int) then some (Sum.inr (a0, 20)) else (ix a0.f_b (w64 ((w64 (a0.f_at + 1)) - 1))).bind fun y2 => some (Sum.inl ((⟨a0.f_b, w64 (a0.f_at + 1)⟩ : order_parser), y2)))
theorem order_parser_next_c (a0 : order_parser) (b0_0 : Nat) (v0_1 : Value) : ConE Try.prog 62 #[.pointer (some ⟨b0_0, 0, none⟩)] [.blk b0_0 [v0_1, .int .i64 a0.f_at] 92, .ro (kSl kB) [v0_1] a0.f_b] (order_parser_next_m a0) (resE (fun (o : order_parser × UInt8) (x : (Unit) × (Unit)) => vB o.2) (fun (e : order_parser × Int) (x : (Unit) × (Unit)) => .iface 94 (.agg #[.int .i64 e.2]))) (loE (fun (o : order_parser × UInt8) (x : (Unit) × (Unit)) => [.blk b0_0 [v0_1, .int .i64 o.1.f_at] 92, .ro (kSl kB) [v0_1] o.1.f_b]) (fun (e : order_parser × Int) (x : (Unit) × (Unit)) => [.blk b0_0 [v0_1, .int .i64 e.1.f_at] 92, .ro (kSl kB) [v0_1] e.1.f_b])) := by
  unfold order_parser_next_m
  refine con (args := [.pointer (some ⟨b0_0, 0, none⟩)]) Try.func62 rfl 33 rfl (.c .n) rfl fun c hD hrn => ?_
  refine cSeq ?_
  refine cRegion ?_
  refine lRd (dAssign (.c (v' := vB 0) rfl)) rfl rfl ?_
  refine lNil ?_
  refine xCode ?_
  refine cSeq ?_
  refine cSeq ?_
  refine cRegionM [] [(0, .early), (1, .early), (2, .early), (3, .early), (4, .early), (5, .early), (6, .early), (7, .early), (8, .early), (9, .early)] mixed (by kernel_rfl) (.c .z (.c .z .nil)) (.c (.c .n)) ?_
  refine mRd rfl rfl (fun _ _ _ => dMove (.t (.s .z))) rfl rfl ?_
  refine mRd rfl rfl (fun _ _ _ => dNil (.t .z)) rfl rfl ?_
  refine mRd rfl rfl (fun _ _ _ => dFld fld_92_1 (by decide) (.t .z) rfl) rfl rfl ?_
  refine mRd rfl rfl (fun _ _ _ => dLoad .z agg_3 (.t .z) rfl) rfl rfl ?_
  refine mRd rfl rfl (fun _ _ _ => dMove (.t (.s (.s (.s (.s (.s .z))))))) rfl rfl ?_
  refine mRd rfl rfl (fun _ _ _ => dNil (.t .z)) rfl rfl ?_
  refine mRd rfl rfl (fun _ _ _ => dFld fld_92_0 (by decide) (.t .z) rfl) rfl rfl ?_
  refine mRd rfl rfl (fun _ _ _ => dLoad .z agg_34 (.t .z) rfl) rfl rfl ?_
  refine mRd rfl rfl (fun _ _ _ => dLen (at_ := #[34]) (slRo (.s .z)) rfl und_34 (.t .z)) rfl rfl ?_
  refine mRd rfl rfl (fun _ _ _ => dGe (.t (.s (.s (.s (.s (.s .z)))))) (.t .z)) rfl rfl ?_
  refine mKeep (.k (.d (.d (.d (.d (.d (.d (.d (.d (.d (.k (.k .n)))))))))))) ?_
  refine mNil ?_
  refine xCode ?_
  refine cCond (.t .z) (fun h1 => ?_) (fun h1 => ?_)
  · refine cRegion ?_
    refine lRd (dBuild (cs := [.int .i64 20]) zer_94 rfl plc_94 (.c (.c rfl) .n) rfl) rfl rfl ?_
    refine lRd (dMkIface nif_94 (.t .z)) rfl rfl ?_
    refine lPanic (.t .z) ?_
    refine pDone hD ?_
    exact lvPan ((), ()) rfl (.c .z (.c .z .nil))
  · refine cSkip ?_
    refine xCode ?_
    refine cSeq ?_
    refine cRegion ?_
    refine lRd (dMove (.t (.s (.s .z)))) rfl rfl ?_
    refine lRd (dNil (.t .z)) rfl rfl ?_
    refine lRd (dFld fld_92_1 (by decide) (.t .z) rfl) rfl rfl ?_
    refine lRd (dLoad .z agg_3 (.t .z) rfl) rfl rfl ?_
    refine lRd (dAddI (.t .z) (.c rfl)) rfl rfl ?_
    refine lRd (dNil (.t (.s (.s (.s (.s .z)))))) rfl rfl ?_
    refine lRd (dFld fld_92_1 (by decide) (.t .z) rfl) rfl rfl ?_
    refine lChU (uStore .z siz_3 rfl (.s .z) (.t .z) (.t (.s (.s .z)))) ?_
    refine lKeep (.d (.d (.d (.d (.d (.d (.d (.d (.k (.k .n)))))))))) ?_
    refine lNil ?_
    refine xCode ?_
    refine cSeq ?_
    refine cRegionM [] [(0, .early), (1, .early), (2, .early), (3, .early), (4, .early), (5, .early), (6, .early), (7, .early), (8, .early), (9, .early), (10, .early), (11, .early)] mixed (by kernel_rfl) (.c .z (.c .z .nil)) (.c (.c .n)) ?_
    refine mRd rfl rfl (fun _ _ _ => dMove (.t (.s .z))) rfl rfl ?_
    refine mRd rfl rfl (fun _ _ _ => dNil (.t .z)) rfl rfl ?_
    refine mRd rfl rfl (fun _ _ _ => dFld fld_92_0 (by decide) (.t .z) rfl) rfl rfl ?_
    refine mRd rfl rfl (fun _ _ _ => dLoad .z agg_34 (.t .z) rfl) rfl rfl ?_
    refine mRd rfl rfl (fun _ _ _ => dMove (.t (.s (.s (.s (.s (.s .z))))))) rfl rfl ?_
    refine mRd rfl rfl (fun _ _ _ => dNil (.t .z)) rfl rfl ?_
    refine mRd rfl rfl (fun _ _ _ => dFld fld_92_1 (by decide) (.t .z) rfl) rfl rfl ?_
    refine mRd rfl rfl (fun _ _ _ => dLoad .z agg_3 (.t .z) rfl) rfl rfl ?_
    refine mRd rfl rfl (fun _ _ _ => dSubI (.t .z) (.c rfl)) rfl rfl ?_
    refine mIx fun y2 h3 h4 => ?_
    refine mRd rfl rfl (fun _ _ _ => dIxAddr (slRo (.s .z)) und_34 siz_5 (.t (.s (.s (.s (.s (.s .z)))))) (.t .z) h3 h4) rfl rfl ?_
    refine mRd rfl rfl (fun _ _ _ => dLoadE (slRo (.s .z)) agg_5 (.t .z) h4 (fun _ _ h => by cases h; rfl)) rfl rfl ?_
    refine mRdK rfl rfl (fun _ _ _ => dAssign (.t .z)) (.k (.k (.k (.k (.k (.k (.k (.k (.k (.k (.k (.d (Keep.refl _))))))))))))) rfl rfl ?_
    refine mKeep (.k .n) ?_
    refine mNil ?_
    refine xCode ?_
    refine cRet ?_
    refine rLeave hD ?_
    exact lvRet (rs := [.tmp 2]) rfl (.t .z .n) ((), ()) rfl (.c .z (.c .z .nil))

-- greenscreen/addr.Value
def addr_Value_m (a0 : UInt8) : Option (Int) := some ((a0 &&& (63 : UInt8)).toNat : Int)
theorem addr_Value_c (a0 : UInt8) : Con Try.prog 92 #[vB a0] [] (addr_Value_m a0) (fun (o : Int) (x : Unit) => .int .i64 o) (fun (o : Int) (x : Unit) => []) := by
  unfold addr_Value_m
  refine con (args := [vB a0]) Try.func92 rfl 6 rfl (.c .n) rfl fun c hD hrn => ?_
  refine cSeq ?_
  refine cRegion ?_
  refine lRd (dAssign (.c rfl)) rfl rfl ?_
  refine lNil ?_
  refine xCode ?_
  refine cSeq ?_
  refine cRegion ?_
  refine lRd (dMove (.t (.s .z))) rfl rfl ?_
  refine lRd (dAndB (.t .z) (.c (v' := vB 63) rfl)) rfl rfl ?_
  refine lRd (dConvB som_5 und_3 rfl (.t .z)) rfl rfl ?_
  refine lRdK (dAssign (.t .z)) (.k (.k (.k (.d (Keep.refl _))))) rfl rfl ?_
  refine lKeep (.k .n) ?_
  refine lNil ?_
  refine xCode ?_
  refine cRet ?_
  refine rLeave hD ?_
  exact lvRet (rs := [.tmp 2]) rfl (.t .z .n) () rfl .nil

-- greenscreen/addr.Decode
def addr_Decode_m (a0 : UInt8) (a1 : UInt8) : Option (Int) := (if (a0 &&& ~~~(63 : UInt8)) = (0 : UInt8) then some (ior .i64 (IntKind.wrap .i64 ((a0.toNat : Int) * 2 ^ (min (Int.toNat 8) 64))) (a1.toNat : Int)) else (addr_Value_m a0).bind fun o2 => (addr_Value_m a1).bind fun o5 => some (ior .i64 (IntKind.wrap .i64 (o2 * 2 ^ (min (Int.toNat 6) 64))) o5))
theorem addr_Decode_c (a0 : UInt8) (a1 : UInt8) : Con Try.prog 77 #[vB a0, vB a1] [] (addr_Decode_m a0 a1) (fun (o : Int) (x : Unit) => .int .i64 o) (fun (o : Int) (x : Unit) => []) := by
  unfold addr_Decode_m
  refine con (args := [vB a0, vB a1]) Try.func77 rfl 20 rfl (.c (.c .n)) rfl fun c hD hrn => ?_
  refine cSeq ?_
  refine cRegion ?_
  refine lRd (dAssign (.c rfl)) rfl rfl ?_
  refine lNil ?_
  refine xCode ?_
  refine cSeq ?_
  refine cSeq ?_
  refine cRegion ?_
  refine lRd (dMove (.t (.s .z))) rfl rfl ?_
  refine lRd (dAndNotB (.t .z) (.c (v' := vB 63) rfl)) rfl rfl ?_
  refine lRd (dEqB (.t .z) (.c (v' := vB 0) rfl)) rfl rfl ?_
  refine lKeep (.k (.d (.d (.k (.k (.k .n)))))) ?_
  refine lNil ?_
  refine xCode ?_
  refine cCond (.t .z) (fun h1 => ?_) (fun h1 => ?_)
  · refine cSeq ?_
    refine cRegion ?_
    refine lRd (dMove (.t (.s (.s .z)))) rfl rfl ?_
    refine lRd (dConvB som_5 und_3 rfl (.t .z)) rfl rfl ?_
    refine lRd (dShl (.t .z) (.c rfl) (by decide)) rfl rfl ?_
    refine lRd (dMove (.t (.s (.s (.s (.s (.s (.s .z)))))))) rfl rfl ?_
    refine lRd (dConvB som_5 und_3 rfl (.t .z)) rfl rfl ?_
    refine lRd (dOr (.t (.s (.s .z))) (.t .z)) rfl rfl ?_
    refine lRdK (dAssign (.t .z)) (.k (.k (.k (.k (.k (.k (.k (.d (Keep.refl _))))))))) rfl rfl ?_
    refine lKeep (.k (.d (.d (.d (.d (.d (.d (.d (.k (.k .n)))))))))) ?_
    refine lNil ?_
    refine xCode ?_
    refine cRet ?_
    refine rLeave hD ?_
    exact lvRet (rs := [.tmp 4]) rfl (.t .z .n) () rfl .nil
  · refine cSkip ?_
    refine xCode ?_
    refine cSeq ?_
    refine cRegion ?_
    refine lRd (dMove (.t (.s (.s .z)))) rfl rfl ?_
    refine lCall fok_92 (.c (.t .z) .n) (addr_Value_c a0) .n rfl rfl fun o2 x3 h4 => ?_
    refine lRd (dShl (.t .z) (.c rfl) (by decide)) rfl rfl ?_
    refine lRd (dMove (.t (.s (.s (.s (.s (.s (.s .z)))))))) rfl rfl ?_
    refine lCall fok_92 (.c (.t .z) .n) (addr_Value_c a1) .n rfl rfl fun o5 x6 h7 => ?_
    refine lRd (dOr (.t (.s (.s .z))) (.t .z)) rfl rfl ?_
    refine lRdK (dAssign (.t .z)) (.k (.k (.k (.k (.k (.k (.k (.d (Keep.refl _))))))))) rfl rfl ?_
    refine lKeep (.k .n) ?_
    refine lNil ?_
    refine xCode ?_
    refine cRet ?_
    refine rLeave hD ?_
    exact lvRet (rs := [.tmp 4]) rfl (.t .z .n) () rfl .nil

-- (*greenscreen/order.parser).place
def order_parser_place_m (a0 : order_parser) : Option (Sum (order_parser × Int) (order_parser × Int)) := (order_parser_next_m a0).bind (onE (fun (o1 : order_parser × UInt8) => (order_parser_next_m o1.1).bind (onE (fun (o7 : order_parser × UInt8) => (addr_Decode_m o1.2 o7.2).bind fun o13 => some (Sum.inl (o7.1, o13))) (fun (o10 : order_parser × Int) => some (Sum.inr (o10.1, o10.2))))) (fun (o4 : order_parser × Int) => some (Sum.inr (o4.1, o4.2))))
theorem order_parser_place_c (a0 : order_parser) (b0_0 : Nat) (v0_1 : Value) : ConE Try.prog 63 #[.pointer (some ⟨b0_0, 0, none⟩)] [.blk b0_0 [v0_1, .int .i64 a0.f_at] 92, .ro (kSl kB) [v0_1] a0.f_b] (order_parser_place_m a0) (resE (fun (o : order_parser × Int) (x : (Unit) × (Unit)) => .int .i64 o.2) (fun (e : order_parser × Int) (x : (Unit) × (Unit)) => .iface 94 (.agg #[.int .i64 e.2]))) (loE (fun (o : order_parser × Int) (x : (Unit) × (Unit)) => [.blk b0_0 [v0_1, .int .i64 o.1.f_at] 92, .ro (kSl kB) [v0_1] o.1.f_b]) (fun (e : order_parser × Int) (x : (Unit) × (Unit)) => [.blk b0_0 [v0_1, .int .i64 e.1.f_at] 92, .ro (kSl kB) [v0_1] e.1.f_b])) := by
  unfold order_parser_place_m
  refine con (args := [.pointer (some ⟨b0_0, 0, none⟩)]) Try.func63 rfl 10 rfl (.c .n) rfl fun c hD hrn => ?_
  refine cSeq ?_
  refine cRegion ?_
  refine lRd (dAssign (.c rfl)) rfl rfl ?_
  refine lNil ?_
  refine xCode ?_
  refine cSeq ?_
  refine cRegion ?_
  refine lRd (dMove (.t (.s .z))) rfl rfl ?_
  refine lCallE fok_62 (.c (.t .z) .n) (order_parser_next_c a0 b0_0 v0_1) (.c .z (.r .z .n)) rfl rfl (fun o1 x2 h3 => ?_) (fun o4 x5 h6 => ?_)
  · refine lRd (dAssign (.t .z)) rfl rfl ?_
    refine lKeep (.k (.d (.d (.k (.k .n))))) ?_
    refine lNil ?_
    refine xCode ?_
    refine cSeq ?_
    refine cRegion ?_
    refine lRd (dMove (.t .z)) rfl rfl ?_
    refine lRd (dMove (.t (.s (.s (.s .z))))) rfl rfl ?_
    refine lCallE fok_62 (.c (.t .z) .n) (order_parser_next_c o1.1 b0_0 v0_1) (.c .z (.r .z .n)) rfl rfl (fun o7 x8 h9 => ?_) (fun o10 x11 h12 => ?_)
    · refine lCall fok_77 (.c (.t (.s (.s .z))) (.c (.t .z) .n)) (addr_Decode_c o1.2 o7.2) .n rfl rfl fun o13 x14 h15 => ?_
      refine lRdK (dAssign (.t .z)) (.k (.k (.k (.k (.k (.d (Keep.refl _))))))) rfl rfl ?_
      refine lKeep (.k .n) ?_
      refine lNil ?_
      refine xCode ?_
      refine cRet ?_
      refine rLeave hD ?_
      exact lvRet (rs := [.tmp 2]) rfl (.t .z .n) ((), ()) rfl (.c .z (.c .z .nil))
    · refine pDone hD ?_
      exact lvPan ((), ()) rfl (.c .z (.c .z .nil))
  · refine pDone hD ?_
    exact lvPan ((), ()) rfl (.c .z (.c .z .nil))

-- greenscreen/attr.Check
def attr_Check_m (a0 : UInt8) (a1 : api_Pair) : Option (Int) := ((if a1.f_Type = (65 : UInt8) then some true else some (decide (a1.f_Type = (66 : UInt8))))).bind fun (s3 : Bool) => ((if a0 = (41 : UInt8) then some (decide (a0 = (41 : UInt8))) else some (decide (a0 = (44 : UInt8))))).bind fun (s6 : Bool) => (if s6 = true then ((if s3 = true then some true else some (decide (a1.f_Type = (192 : UInt8))))).bind fun (s10 : Bool) => (if s10 = true then some 0 else some 33) else (if a0 = (40 : UInt8) then ((if s3 = true then some true else (if a1.f_Type = (0 : UInt8) then some (decide (a1.f_Value = (0 : UInt8))) else some false))).bind fun (s16 : Bool) => (if s16 = true then some 0 else some 33) else some 33))
theorem attr_Check_c (a0 : UInt8) (a1 : api_Pair) : Con Try.prog 78 #[vB a0, .agg #[vB a1.f_Type, vB a1.f_Value]] [] (attr_Check_m a0 a1) (fun (o : Int) (x : Unit) => .int .i64 o) (fun (o : Int) (x : Unit) => []) := by
  unfold attr_Check_m
  refine con (args := [vB a0, .agg #[vB a1.f_Type, vB a1.f_Value]]) Try.func78 rfl 37 rfl (.c (.c .n)) rfl fun c hD hrn => ?_
  refine cSeq ?_
  refine cRegion ?_
  refine lCh (cBox (cs := [vB a1.f_Type, vB a1.f_Value]) (.t (.s .z)) rfl) rfl rfl fun b1 => ?_
  refine lRd (dAssign (.c rfl)) rfl rfl ?_
  refine lKeep (.k (.k (.k .n))) ?_
  refine lNil ?_
  refine xCode ?_
  refine cSeq ?_
  refine cJoin (S := Bool) (X := Unit) (fun (s : Bool) (x : Unit) => [(5, .bool s), (4, .int .i64 0), (3, .pointer (some ⟨b1, 0, none⟩)), (0, vB a0)]) (fun (s : Bool) (x : Unit) => [.blk b1 [vB a1.f_Type, vB a1.f_Value] 132]) ?_ (fun s3 x4 => ?_)
  · refine cRegion ?_
    refine lRd (dFld fld_132_0 (by decide) (.t (.s .z)) rfl) rfl rfl ?_
    refine lRd (dLoad .z agg_5 (.t .z) rfl) rfl rfl ?_
    refine lRd (dEqB (.t .z) (.c (v' := vB 65) rfl)) rfl rfl ?_
    refine lRd (dMove (.t .z)) rfl rfl ?_
    refine lCase (fun h2 => ?_) (fun h2 => ?_)
    · refine lPass rfl .z (nbF (decide_eq_true h2)) rfl ?_
      refine lPass rfl .z (nbF (decide_eq_true h2)) rfl ?_
      refine lPass rfl .z (nbF (decide_eq_true h2)) rfl ?_
      refine lRd (dPickT (.t .z) (decide_eq_true h2) (.c rfl)) rfl rfl ?_
      refine lRd (dAssign (.t .z)) rfl rfl ?_
      refine lKeep (.k (.d (.d (.d (.d (.d (.k (.k (.k .n))))))))) ?_
      refine lNil ?_
      exact xJoin true () (.c .z (.c (.s .z) (.c (.s (.s .z)) (.c (.s (.s (.s .z))) .n)))) (.c .z .nil)
    · refine lRdG rfl .z (decide_eq_false h2) (dFld fld_132_0 (by decide) (.t (.s (.s (.s (.s (.s .z)))))) rfl) rfl rfl ?_
      refine lRdG rfl (.s .z) (decide_eq_false h2) (dLoad .z agg_5 (.t .z) rfl) rfl rfl ?_
      refine lRdG rfl (.s (.s .z)) (decide_eq_false h2) (dEqB (.t .z) (.c (v' := vB 66) rfl)) rfl rfl ?_
      refine lRd (dPickF (.t (.s (.s (.s .z)))) (decide_eq_false h2) (.t .z)) rfl rfl ?_
      refine lRd (dAssign (.t .z)) rfl rfl ?_
      refine lKeep (.k (.d (.d (.d (.d (.d (.d (.d (.d (.k (.k (.k .n)))))))))))) ?_
      refine lNil ?_
      exact xJoin (decide (a1.f_Type = (66 : UInt8))) () (.c .z (.c (.s .z) (.c (.s (.s .z)) (.c (.s (.s (.s .z))) .n)))) (.c .z .nil)
  · refine xCode ?_
    refine cSeq ?_
    refine cSeq ?_
    refine cRegion ?_
    refine lRd (dMove (.t (.s (.s (.s .z))))) rfl rfl ?_
    refine lKeep (.k (.k (.k (.k .n)))) ?_
    refine lNil ?_
    refine xCode ?_
    refine cBlock ?_
    refine cSeq ?_
    refine cSeq ?_
    refine cRegion ?_
    refine lRd (dEqB (.t .z) (.c (v' := vB 41) rfl)) rfl rfl ?_
    refine lRd (dAssign (.t .z)) rfl rfl ?_
    refine lKeep (.k (.d (.k (.k (.k (.k .n)))))) ?_
    refine lNil ?_
    refine xCode ?_
    refine cJoin (S := Bool) (X := Unit) (fun (s : Bool) (x : Unit) => [(15, .bool s), (14, vB a0), (5, .bool s3), (4, .int .i64 0), (3, .pointer (some ⟨b1, 0, none⟩))]) (fun (s : Bool) (x : Unit) => [.blk b1 [vB a1.f_Type, vB a1.f_Value] 132]) ?_ (fun s6 x7 => ?_)
    · refine cCond (.t .z) (fun h5 => ?_) (fun h5 => ?_)
      · refine cSkip ?_
        exact xJoin (decide (a0 = (41 : UInt8))) () (.c .z (.c (.s .z) (.c (.s (.s .z)) (.c (.s (.s (.s .z))) (.c (.s (.s (.s (.s .z)))) .n))))) (.c .z .nil)
      · refine cRegion ?_
        refine lRd (dEqB (.t (.s .z)) (.c (v' := vB 44) rfl)) rfl rfl ?_
        refine lRdK (dAssign (.t .z)) (.k (.d (Keep.refl _))) rfl rfl ?_
        refine lKeep (.k (.d (.k (.k (.k (.k .n)))))) ?_
        refine lNil ?_
        exact xJoin (decide (a0 = (44 : UInt8))) () (.c .z (.c (.s .z) (.c (.s (.s .z)) (.c (.s (.s (.s .z))) (.c (.s (.s (.s (.s .z)))) .n))))) (.c .z .nil)
    · refine xCode ?_
      refine cCondB (.t .z) (fun h8 => ?_) (fun h8 => ?_)
      · refine cSeq ?_
        refine cJoin (S := Bool) (X := Unit) (fun (s : Bool) (x : Unit) => [(23, .bool s), (4, .int .i64 0)]) (fun (s : Bool) (x : Unit) => [.blk b1 [vB a1.f_Type, vB a1.f_Value] 132]) ?_ (fun s10 x11 => ?_)
        · refine cRegion ?_
          refine lRd (dMove (.t (.s (.s .z)))) rfl rfl ?_
          refine lRd (dMove (.t .z)) rfl rfl ?_
          refine lCase (fun h9 => ?_) (fun h9 => ?_)
          · refine lPass rfl .z (nbF h9) rfl ?_
            refine lPass rfl .z (nbF h9) rfl ?_
            refine lPass rfl .z (nbF h9) rfl ?_
            refine lRd (dPickT (.t .z) h9 (.c rfl)) rfl rfl ?_
            refine lKeep (.k (.d (.d (.d (.d (.d (.k .n))))))) ?_
            refine lNil ?_
            exact xJoin true () (.c .z (.c (.s .z) .n)) (.c .z .nil)
          · refine lRdG rfl .z (Bool.eq_false_iff.mpr h9) (dFld fld_132_0 (by decide) (.t (.s (.s (.s (.s (.s (.s .z))))))) rfl) rfl rfl ?_
            refine lRdG rfl (.s .z) (Bool.eq_false_iff.mpr h9) (dLoad .z agg_5 (.t .z) rfl) rfl rfl ?_
            refine lRdG rfl (.s (.s .z)) (Bool.eq_false_iff.mpr h9) (dEqB (.t .z) (.c (v' := vB 192) rfl)) rfl rfl ?_
            refine lRd (dPickF (.t (.s (.s (.s .z)))) (Bool.eq_false_iff.mpr h9) (.t .z)) rfl rfl ?_
            refine lKeep (.k (.d (.d (.d (.d (.d (.d (.d (.d (.k .n)))))))))) ?_
            refine lNil ?_
            exact xJoin (decide (a1.f_Type = (192 : UInt8))) () (.c .z (.c (.s .z) .n)) (.c .z .nil)
        · refine xCode ?_
          refine cCondB (.t .z) (fun h12 => ?_) (fun h12 => ?_)
          · refine cSeq ?_
            refine cRegion ?_
            refine lRdK (dAssign (.c rfl)) (.k (.d (Keep.refl _))) rfl rfl ?_
            refine lKeep (.k .n) ?_
            refine lNil ?_
            refine xCode ?_
            refine cRet ?_
            refine rLeave hD ?_
            exact lvRet (rs := [.tmp 4]) rfl (.t .z .n) () rfl .nil
          · refine cSkip ?_
            refine xBlock ?_
            refine xCode ?_
            refine cSeq ?_
            refine cRegion ?_
            refine lRdK (dAssign (.c rfl)) (.k (.d (Keep.refl _))) rfl rfl ?_
            refine lKeep (.k .n) ?_
            refine lNil ?_
            refine xCode ?_
            refine cRet ?_
            refine rLeave hD ?_
            exact lvRet (rs := [.tmp 4]) rfl (.t .z .n) () rfl .nil
      · refine cSeq ?_
        refine cRegion ?_
        refine lRd (dEqB (.t (.s .z)) (.c (v' := vB 40) rfl)) rfl rfl ?_
        refine lRd (dAssign (.t .z)) rfl rfl ?_
        refine lKeep (.k (.d (.d (.d (.k (.k (.k .n))))))) ?_
        refine lNil ?_
        refine xCode ?_
        refine cCond (.t .z) (fun h13 => ?_) (fun h13 => ?_)
        · refine cSeq ?_
          refine cJoin (S := Bool) (X := Unit) (fun (s : Bool) (x : Unit) => [(36, .bool s), (4, .int .i64 0)]) (fun (s : Bool) (x : Unit) => [.blk b1 [vB a1.f_Type, vB a1.f_Value] 132]) ?_ (fun s16 x17 => ?_)
          · refine cRegion ?_
            refine lRd (dMove (.t (.s .z))) rfl rfl ?_
            refine lRd (dMove (.t .z)) rfl rfl ?_
            refine lCase (fun h14 => ?_) (fun h14 => ?_)
            · refine lPass rfl .z (nbF h14) rfl ?_
              refine lPass rfl .z (nbF h14) rfl ?_
              refine lPass rfl .z (nbF h14) rfl ?_
              refine lPassU rfl .z (nbF h14) rfl rfl ?_
              refine lPass rfl .z nbU rfl ?_
              refine lPass rfl .z nbU rfl ?_
              refine lPass rfl .z nbU rfl ?_
              refine lPass rfl (.s .z) (nbF h14) rfl ?_
              refine lRd (dPickT (.t (.s .z)) h14 (.c rfl)) rfl rfl ?_
              refine lKeep (.k (.d (.d (.d (.d (.d (.k .n))))))) ?_
              refine lNil ?_
              exact xJoin true () (.c .z (.c (.s .z) .n)) (.c .z .nil)
            · refine lRdG rfl .z (Bool.eq_false_iff.mpr h14) (dFld fld_132_0 (by decide) (.t (.s (.s (.s (.s (.s .z)))))) rfl) rfl rfl ?_
              refine lRdG rfl (.s .z) (Bool.eq_false_iff.mpr h14) (dLoad .z agg_5 (.t .z) rfl) rfl rfl ?_
              refine lRdG rfl (.s (.s .z)) (Bool.eq_false_iff.mpr h14) (dEqB (.t .z) (.c (v' := vB 0) rfl)) rfl rfl ?_
              refine lRdG rfl (.s (.s (.s .z))) (Bool.eq_false_iff.mpr h14) (dMove (.t .z)) rfl rfl ?_
              refine lCase (fun h15 => ?_) (fun h15 => ?_)
              · refine lRdG rfl .z (decide_eq_true h15) (dFld fld_132_1 (by decide) (.t (.s (.s (.s (.s (.s (.s (.s (.s (.s .z)))))))))) rfl) rfl rfl ?_
                refine lRdG rfl (.s .z) (decide_eq_true h15) (dLoad .z agg_5 (.t .z) rfl) rfl rfl ?_
                refine lRdG rfl (.s (.s .z)) (decide_eq_true h15) (dEqB (.t .z) (.c (v' := vB 0) rfl)) rfl rfl ?_
                refine lRdG rfl (.s (.s (.s (.s (.s (.s (.s .z))))))) (Bool.eq_false_iff.mpr h14) (dPickT (.t (.s (.s (.s .z)))) (decide_eq_true h15) (.t .z)) rfl rfl ?_
                refine lRd (dPickF (.t (.s (.s (.s (.s (.s (.s (.s (.s .z))))))))) (Bool.eq_false_iff.mpr h14) (.t .z)) rfl rfl ?_
                refine lKeep (.k (.d (.d (.d (.d (.d (.d (.d (.d (.d (.d (.d (.d (.k .n)))))))))))))) ?_
                refine lNil ?_
                exact xJoin (decide (a1.f_Value = (0 : UInt8))) () (.c .z (.c (.s .z) .n)) (.c .z .nil)
              · refine lPass rfl .z (nbT (decide_eq_false h15)) rfl ?_
                refine lPass rfl .z (nbT (decide_eq_false h15)) rfl ?_
                refine lPass rfl .z (nbT (decide_eq_false h15)) rfl ?_
                refine lRdG rfl (.s (.s (.s (.s .z)))) (Bool.eq_false_iff.mpr h14) (dPickF (.t .z) (decide_eq_false h15) (.c rfl)) rfl rfl ?_
                refine lRd (dPickF (.t (.s (.s (.s (.s (.s .z)))))) (Bool.eq_false_iff.mpr h14) (.t .z)) rfl rfl ?_
                refine lKeep (.k (.d (.d (.d (.d (.d (.d (.d (.d (.d (.k .n))))))))))) ?_
                refine lNil ?_
                exact xJoin false () (.c .z (.c (.s .z) .n)) (.c .z .nil)
          · refine xCode ?_
            refine cCondB (.t .z) (fun h18 => ?_) (fun h18 => ?_)
            · refine cSeq ?_
              refine cRegion ?_
              refine lRdK (dAssign (.c rfl)) (.k (.d (Keep.refl _))) rfl rfl ?_
              refine lKeep (.k .n) ?_
              refine lNil ?_
              refine xCode ?_
              refine cRet ?_
              refine rLeave hD ?_
              exact lvRet (rs := [.tmp 4]) rfl (.t .z .n) () rfl .nil
            · refine cSkip ?_
              refine xBlock ?_
              refine xCode ?_
              refine cSeq ?_
              refine cRegion ?_
              refine lRdK (dAssign (.c rfl)) (.k (.d (Keep.refl _))) rfl rfl ?_
              refine lKeep (.k .n) ?_
              refine lNil ?_
              refine xCode ?_
              refine cRet ?_
              refine rLeave hD ?_
              exact lvRet (rs := [.tmp 4]) rfl (.t .z .n) () rfl .nil
        · refine cSkip ?_
          refine xBlock ?_
          refine xCode ?_
          refine cSeq ?_
          refine cRegion ?_
          refine lRdK (dAssign (.c rfl)) (.k (.k (.d (Keep.refl _)))) rfl rfl ?_
          refine lKeep (.k .n) ?_
          refine lNil ?_
          refine xCode ?_
          refine cRet ?_
          refine rLeave hD ?_
          exact lvRet (rs := [.tmp 4]) rfl (.t .z .n) () rfl .nil

-- (*greenscreen/order.parser).pairs
def order_parser_pairs_l1 (K : Nat) (a1 : UInt8) (a2 : Int) : Nat → (Int × (List api_Pair) × (List UInt8) × Int) → Option (Sum ((List api_Pair) × (List UInt8) × Int) (Sum (order_parser × (List api_Pair)) (order_parser × Int)))
  | 0, _ => none
  | n + 1, s1 => (if s1.1 < a2 then (order_parser_next_m (⟨s1.2.2.1, s1.2.2.2⟩ : order_parser)).bind (onE (fun (o7 : order_parser × UInt8) => (order_parser_next_m o7.1).bind (onE (fun (o13 : order_parser × UInt8) => (attr_Check_m a1 (⟨o7.2, o13.2⟩ : api_Pair)).bind fun o20 => (if o20 ≠ 0 then some (Sum.inr (Sum.inr (o13.1, o20))) else (app s1.2.1 ([(⟨o7.2, o13.2⟩ : api_Pair)] : List api_Pair)).bind fun zs25 => (order_parser_pairs_l1 K a1 a2 n) (w64 (s1.1 + 1), zs25, o13.1.f_b, o13.1.f_at))) (fun (o16 : order_parser × Int) => some (Sum.inr (Sum.inr (o16.1, o16.2)))))) (fun (o10 : order_parser × Int) => some (Sum.inr (Sum.inr (o10.1, o10.2))))) else some (Sum.inl (s1.2.1, s1.2.2.1, s1.2.2.2)))
def order_parser_pairs_m (K : Nat) (a0 : order_parser) (a1 : UInt8) (a2 : Int) : Option (Sum (order_parser × (List api_Pair)) (order_parser × Int)) := (order_parser_pairs_l1 K a1 a2 K (0, [], a0.f_b, a0.f_at)).bind (onS fun (s28 : (List api_Pair) × (List UInt8) × Int) => some (Sum.inl ((⟨s28.2.1, s28.2.2⟩ : order_parser), s28.1)))
theorem order_parser_pairs_c (K : Nat) (a0 : order_parser) (a1 : UInt8) (a2 : Int) (b0_0 : Nat) (v0_1 : Value) : ConE Try.prog 64 #[.pointer (some ⟨b0_0, 0, none⟩), vB a1, .int .i64 a2] [.blk b0_0 [v0_1, .int .i64 a0.f_at] 92, .ro (kSl kB) [v0_1] a0.f_b] (order_parser_pairs_m K a0 a1 a2) (resE (fun (o : order_parser × (List api_Pair)) (x : (Value) × (Unit)) => x.1) (fun (e : order_parser × Int) (x : (Value) × (Unit)) => .iface 94 (.agg #[.int .i64 e.2]))) (loE (fun (o : order_parser × (List api_Pair)) (x : (Value) × (Unit)) => [.blk b0_0 [v0_1, .int .i64 o.1.f_at] 92, .ro (kSl kB) [v0_1] o.1.f_b, .own x.1 132 k_api_Pair o.2]) (fun (e : order_parser × Int) (x : (Value) × (Unit)) => [.blk b0_0 [v0_1, .int .i64 e.1.f_at] 92, .ro (kSl kB) [v0_1] e.1.f_b])) := by
  unfold order_parser_pairs_m
  refine con (args := [.pointer (some ⟨b0_0, 0, none⟩), vB a1, .int .i64 a2]) Try.func64 rfl 34 rfl (.c (.c (.c .n))) rfl fun c hD hrn => ?_
  refine cSeq ?_
  refine cRegion ?_
  refine lRd (dAssign (.c rfl)) rfl rfl ?_
  refine lNil ?_
  refine xCode ?_
  refine cSeq ?_
  refine cRegion ?_
  refine lRd (dAssign (.c rfl)) rfl rfl ?_
  refine lNil ?_
  refine xCode ?_
  refine cSeq ?_
  refine cSeq ?_
  refine cRegion ?_
  refine lRd (dMove (.t (.s (.s (.s (.s .z)))))) rfl rfl ?_
  refine lRd (dMove (.c rfl)) rfl rfl ?_
  refine lKeep (.k (.k (.k (.k (.k (.k .n)))))) ?_
  refine lNil ?_
  refine xCode ?_
  refine cSt (ownNil 132 k_api_Pair) ?_
  refine cLoopR (S := Int × (List api_Pair) × (List UInt8) × Int) (X := Value) (S' := (List api_Pair) × (List UInt8) × Int) (X' := Value) (order_parser_pairs_l1 K a1 a2) (fun (s : Int × (List api_Pair) × (List UInt8) × Int) (x : Value) => [(12, .int .i64 s.1), (11, .int .i64 a2), (7, x), (6, .slice none 0 0), (0, .pointer (some ⟨b0_0, 0, none⟩)), (1, vB a1)]) (fun (s : Int × (List api_Pair) × (List UInt8) × Int) (x : Value) => [.blk b0_0 [v0_1, .int .i64 s.2.2.2] 92, .ro (kSl kB) [v0_1] s.2.2.1, .own x 132 k_api_Pair s.2.1]) (fun (s : (List api_Pair) × (List UInt8) × Int) (x : Value) => [(7, x), (6, .slice none 0 0)]) (fun (s : (List api_Pair) × (List UInt8) × Int) (x : Value) => [.blk b0_0 [v0_1, .int .i64 s.2.2] 92, .ro (kSl kB) [v0_1] s.2.1, .own x 132 k_api_Pair s.1]) K (0, [], a0.f_b, a0.f_at) (.slice none 0 0) (.c .z (.c (.s .z) (.c (.s (.s .z)) (.c (.s (.s (.s .z))) (.c (.s (.s (.s (.s .z)))) (.c (.s (.s (.s (.s (.s .z))))) .n)))))) (.c (.s .z) (.c (.s .z) (.c .z .nil))) (fun _ => rfl) (fun n3 I4 h5 s1 x2 => ?_) (fun s28 x29 => ?_)
  · rw [order_parser_pairs_l1]
    refine cSeq ?_
    refine cRegion ?_
    refine lRd (dLt (.t .z) (.t (.s .z))) rfl rfl ?_
    refine lNil ?_
    refine xCode ?_
    refine cSeq ?_
    refine cCond (.t .z) (fun h6 => ?_) (fun h6 => ?_)
    · refine cSkip ?_
      refine xCode ?_
      refine cSeq ?_
      refine cBlock ?_
      refine cSeq ?_
      refine cRegion ?_
      refine lRd (dMove (.t (.s (.s (.s (.s (.s .z))))))) rfl rfl ?_
      refine lCallE fok_62 (.c (.t .z) .n) (order_parser_next_c (⟨s1.2.2.1, s1.2.2.2⟩ : order_parser) b0_0 v0_1) (.c .z (.r .z .n)) rfl rfl (fun o7 x8 h9 => ?_) (fun o10 x11 h12 => ?_)
      · refine lRd (dAssign (.t .z)) rfl rfl ?_
        refine lNil ?_
        refine xCode ?_
        refine cSeq ?_
        refine cRegion ?_
        refine lRd (dMove (.t .z)) rfl rfl ?_
        refine lRd (dMove (.t (.s (.s (.s (.s (.s (.s (.s (.s (.s .z))))))))))) rfl rfl ?_
        refine lCallE fok_62 (.c (.t .z) .n) (order_parser_next_c o7.1 b0_0 v0_1) (.c .z (.r .z .n)) rfl rfl (fun o13 x14 h15 => ?_) (fun o16 x17 h18 => ?_)
        · refine lRd (dBuild (cs := [vB o7.2, vB o13.2]) zer_132 rfl plc_132 (.c (.t (.s (.s .z))) (.c (.t .z) .n)) rfl) rfl rfl ?_
          refine lCh (cAlloc (cs := [vB 0, vB 0]) zer_132 rfl) rfl rfl fun b19 => ?_
          refine lChU (uStoreA (us := [vB o7.2, vB o13.2]) (cs' := [vB o7.2, vB o13.2]) .z siz_132 rfl (by intro u hu; simp only [List.mem_cons, List.not_mem_nil, or_false] at hu; rcases hu with rfl | rfl <;> first | rfl | assumption) rfl (by simp) (.t .z) (.t (.s .z))) ?_
          refine lNil ?_
          refine xCode ?_
          refine cSeq ?_
          refine cSeq ?_
          refine cRegion ?_
          refine lRd (dMove (.t (.s (.s (.s (.s (.s (.s (.s (.s (.s (.s (.s (.s (.s (.s .z)))))))))))))))) rfl rfl ?_
          refine lRd (dLoadA (us := [vB o7.2, vB o13.2]) .z agg_132 siz_132 rfl (.t (.s .z)) rfl) rfl rfl ?_
          refine lCall fok_78 (.c (.t (.s .z)) (.c (.t .z) .n)) (attr_Check_c a1 (⟨o7.2, o13.2⟩ : api_Pair)) .n rfl rfl fun o20 x21 h22 => ?_
          refine lRd (dAssign (.t .z)) rfl rfl ?_
          refine lNil ?_
          refine xCode ?_
          refine cSeq ?_
          refine cRegion ?_
          refine lRd (dMove (.t .z)) rfl rfl ?_
          refine lRd (dNe (.t .z) (.c rfl)) rfl rfl ?_
          refine lNil ?_
          refine xCode ?_
          refine cCond (.t .z) (fun h23 => ?_) (fun h23 => ?_)
          · refine cRegion ?_
            refine lRd (dMove (.t (.s (.s .z)))) rfl rfl ?_
            refine lRd (dBuild (cs := [.int .i64 o20]) zer_94 rfl plc_94 (.c (.t .z) .n) rfl) rfl rfl ?_
            refine lRd (dMkIface nif_94 (.t .z)) rfl rfl ?_
            refine lPanic (.t .z) ?_
            refine pInner ?_
            refine pDone hD ?_
            exact lvPan (undef, ()) rfl (.c (.s .z) (.c (.s .z) .nil))
          · refine cSkip ?_
            refine xCode ?_
            refine cRegion ?_
            refine lRd (dMove (.t (.s (.s (.s (.s (.s (.s (.s (.s (.s (.s (.s (.s (.s (.s (.s (.s (.s .z))))))))))))))))))) rfl rfl ?_
            refine lRd (dLoadA (us := [vB o7.2, vB o13.2]) .z agg_132 siz_132 rfl (.t (.s (.s (.s (.s (.s (.s (.s .z)))))))) rfl) rfl rfl ?_
            refine lCh (cBuildSlice (te := 132) (k := k_api_Pair) (css := [[vB o7.2, vB o13.2]]) (xs := ([(⟨o7.2, o13.2⟩ : api_Pair)] : List api_Pair)) und_95 siz_132 zer_132 rfl (by decide) rfl (.c (.t .z) .n) rfl (fun zs h => match zs, h with | [_, _], _ => rfl) rfl (fun _ _ _ => (.cons rfl .nil))) rfl rfl fun b24 => ?_
            refine lBind fun zs25 h26 => ?_
            refine lCh (cAppend (xs := s1.2.1) (ys := ([(⟨o7.2, o13.2⟩ : api_Pair)] : List api_Pair)) (.s (.s (.s (.s (.s (.s .z)))))) (srcOwn .z) (.t (.s (.s .z))) (.t .z) und_95 und_95 rfl inf_132 rfl (by decide) h26) rfl rfl fun v27 => ?_
            refine lRdK (dAssign (.t .z)) (.k (.k (.k (.k (.k (.k (.k (.k (.k (.k (.k (.k (.k (.k (.k (.k (.k (.k (.k (.k (.k (.d (Keep.refl _))))))))))))))))))))))) rfl rfl ?_
            refine lNil ?_
            refine xBlock ?_
            refine xCode ?_
            refine cRegion ?_
            refine lRd (dAddI (.t (.s (.s (.s (.s (.s (.s (.s (.s (.s (.s (.s (.s (.s (.s (.s (.s (.s (.s (.s (.s .z))))))))))))))))))))) (.c rfl)) rfl rfl ?_
            refine lRdK (dMove (.t .z)) (.k (.k (.k (.k (.k (.k (.k (.k (.k (.k (.k (.k (.k (.k (.k (.k (.k (.k (.k (.k (.k (.d (Keep.refl _))))))))))))))))))))))) rfl rfl ?_
            refine lNil ?_
            exact xRound h5 (w64 (s1.1 + 1), zs25, o13.1.f_b, o13.1.f_at) v27 (.c .z (.c (.s (.s (.s (.s (.s (.s (.s (.s (.s (.s (.s (.s (.s (.s (.s (.s (.s (.s (.s (.s (.s (.s .z)))))))))))))))))))))) (.c (.s (.s .z)) (.c (.s (.s (.s (.s (.s (.s (.s (.s (.s (.s (.s (.s (.s (.s (.s (.s (.s (.s (.s (.s (.s (.s (.s .z))))))))))))))))))))))) (.c (.s (.s (.s (.s (.s (.s (.s (.s (.s (.s (.s (.s (.s (.s (.s (.s (.s (.s (.s (.s (.s (.s (.s (.s .z)))))))))))))))))))))))) (.c (.s (.s (.s (.s (.s (.s (.s (.s (.s (.s (.s (.s (.s (.s (.s (.s (.s (.s (.s (.s (.s (.s (.s (.s (.s .z))))))))))))))))))))))))) .n)))))) (.c (.s (.s (.s .z))) (.c (.s (.s (.s .z))) (.c .z .nil)))
        · refine pInner ?_
          refine pDone hD ?_
          exact lvPan (undef, ()) rfl (.c .z (.c .z .nil))
      · refine pInner ?_
        refine pDone hD ?_
        exact lvPan (undef, ()) rfl (.c .z (.c .z .nil))
    · refine cExit ?_
      refine xOver ?_
      refine xOverF ?_
      exact xBreakR (s1.2.1, s1.2.2.1, s1.2.2.2) x2 (.c (.s (.s (.s .z))) (.c (.s (.s (.s (.s .z)))) .n)) (.c .z (.c .z (.c .z .nil)))
  · refine xCode ?_
    refine cSeq ?_
    refine cRegion ?_
    refine lRd (dMove (.t .z)) rfl rfl ?_
    refine lRdK (dAssign (.t .z)) (.k (.k (.d (Keep.refl _)))) rfl rfl ?_
    refine lKeep (.k .n) ?_
    refine lNil ?_
    refine xCode ?_
    refine cRet ?_
    refine rLeave hD ?_
    exact lvRet (rs := [.tmp 6]) rfl (.t .z .n) (x29, ()) rfl (.c .z (.c .z (.c .z .nil)))

-- (*greenscreen/order.parser).special
def order_parser_special_m (a0 : order_parser) : Option (Sum (order_parser × UInt8) (order_parser × Int)) := (order_parser_next_m a0).bind (onE (fun (o1 : order_parser × UInt8) => (if o1.2 < (64 : UInt8) then some (Sum.inr (o1.1, 31)) else some (Sum.inl (o1.1, o1.2)))) (fun (o4 : order_parser × Int) => some (Sum.inr (o4.1, o4.2))))
theorem order_parser_special_c (a0 : order_parser) (b0_0 : Nat) (v0_1 : Value) : ConE Try.prog 66 #[.pointer (some ⟨b0_0, 0, none⟩)] [.blk b0_0 [v0_1, .int .i64 a0.f_at] 92, .ro (kSl kB) [v0_1] a0.f_b] (order_parser_special_m a0) (resE (fun (o : order_parser × UInt8) (x : (Unit) × (Unit)) => vB o.2) (fun (e : order_parser × Int) (x : (Unit) × (Unit)) => .iface 94 (.agg #[.int .i64 e.2]))) (loE (fun (o : order_parser × UInt8) (x : (Unit) × (Unit)) => [.blk b0_0 [v0_1, .int .i64 o.1.f_at] 92, .ro (kSl kB) [v0_1] o.1.f_b]) (fun (e : order_parser × Int) (x : (Unit) × (Unit)) => [.blk b0_0 [v0_1, .int .i64 e.1.f_at] 92, .ro (kSl kB) [v0_1] e.1.f_b])) := by
  unfold order_parser_special_m
  refine con (args := [.pointer (some ⟨b0_0, 0, none⟩)]) Try.func66 rfl 11 rfl (.c .n) rfl fun c hD hrn => ?_
  refine cSeq ?_
  refine cRegion ?_
  refine lRd (dAssign (.c (v' := vB 0) rfl)) rfl rfl ?_
  refine lNil ?_
  refine xCode ?_
  refine cSeq ?_
  refine cRegion ?_
  refine lRd (dMove (.t (.s .z))) rfl rfl ?_
  refine lCallE fok_62 (.c (.t .z) .n) (order_parser_next_c a0 b0_0 v0_1) (.c .z (.r .z .n)) rfl rfl (fun o1 x2 h3 => ?_) (fun o4 x5 h6 => ?_)
  · refine lRd (dAssign (.t .z)) rfl rfl ?_
    refine lKeep (.k (.d (.d (.k .n)))) ?_
    refine lNil ?_
    refine xCode ?_
    refine cSeq ?_
    refine cSeq ?_
    refine cRegion ?_
    refine lRd (dMove (.t .z)) rfl rfl ?_
    refine lRd (dLtB (.t .z) (.c (v' := vB 64) rfl)) rfl rfl ?_
    refine lKeep (.k (.d (.k (.k .n)))) ?_
    refine lNil ?_
    refine xCode ?_
    refine cCond (.t .z) (fun h7 => ?_) (fun h7 => ?_)
    · refine cRegion ?_
      refine lRd (dBuild (cs := [.int .i64 31]) zer_94 rfl plc_94 (.c (.c rfl) .n) rfl) rfl rfl ?_
      refine lRd (dMkIface nif_94 (.t .z)) rfl rfl ?_
      refine lPanic (.t .z) ?_
      refine pDone hD ?_
      exact lvPan ((), ()) rfl (.c .z (.c .z .nil))
    · refine cSkip ?_
      refine xCode ?_
      refine cSeq ?_
      refine cRegion ?_
      refine lRd (dMove (.t (.s .z))) rfl rfl ?_
      refine lRdK (dAssign (.t .z)) (.k (.k (.k (.d (Keep.refl _))))) rfl rfl ?_
      refine lKeep (.k .n) ?_
      refine lNil ?_
      refine xCode ?_
      refine cRet ?_
      refine rLeave hD ?_
      exact lvRet (rs := [.tmp 2]) rfl (.t .z .n) ((), ()) rfl (.c .z (.c .z .nil))
  · refine pDone hD ?_
    exact lvPan ((), ()) rfl (.c .z (.c .z .nil))

-- (*greenscreen/order.parser).repeat
def order_parser_repeat_m (a0 : order_parser) : Option (Sum (order_parser × api_Order) (order_parser × Int)) := (order_parser_place_m a0).bind (onE (fun (o2 : order_parser × Int) => (order_parser_next_m o2.1).bind (onE (fun (o8 : order_parser × UInt8) => (if o8.2 = (8 : UInt8) then (order_parser_special_m o8.1).bind (onE (fun (o16 : order_parser × UInt8) => some (Sum.inl (o16.1, (⟨(60 : UInt8), o2.2, o16.2, true, [], []⟩ : api_Order)))) (fun (o19 : order_parser × Int) => some (Sum.inr (o19.1, o19.2)))) else (order_Plain_m o8.2).bind fun o22 => (if (!o22) = true then some (Sum.inr (o8.1, 31)) else some (Sum.inl (o8.1, (⟨(60 : UInt8), o2.2, o8.2, false, [], []⟩ : api_Order)))))) (fun (o11 : order_parser × Int) => some (Sum.inr (o11.1, o11.2))))) (fun (o5 : order_parser × Int) => some (Sum.inr (o5.1, o5.2))))
theorem order_parser_repeat_c (a0 : order_parser) (b0_0 : Nat) (v0_1 : Value) : ConE Try.prog 65 #[.pointer (some ⟨b0_0, 0, none⟩)] [.blk b0_0 [v0_1, .int .i64 a0.f_at] 92, .ro (kSl kB) [v0_1] a0.f_b] (order_parser_repeat_m a0) (resE (fun (o : order_parser × api_Order) (x : (Value × Value) × (Unit)) => .agg #[vB o.2.f_Kind, .int .i64 o.2.f_Addr, vB o.2.f_Byte, .bool o.2.f_GE, x.1.1, x.1.2]) (fun (e : order_parser × Int) (x : (Value × Value) × (Unit)) => .iface 94 (.agg #[.int .i64 e.2]))) (loE (fun (o : order_parser × api_Order) (x : (Value × Value) × (Unit)) => [.blk b0_0 [v0_1, .int .i64 o.1.f_at] 92, .ro (kSl kB) [v0_1] o.1.f_b, .ro (kSl k_api_Pair) [x.1.1] o.2.f_Pairs, .ro (kSl kB) [x.1.2] o.2.f_Data]) (fun (e : order_parser × Int) (x : (Value × Value) × (Unit)) => [.blk b0_0 [v0_1, .int .i64 e.1.f_at] 92, .ro (kSl kB) [v0_1] e.1.f_b])) := by
  unfold order_parser_repeat_m
  refine con (args := [.pointer (some ⟨b0_0, 0, none⟩)]) Try.func65 rfl 25 rfl (.c .n) rfl fun c hD hrn => ?_
  refine cSeq ?_
  refine cRegion ?_
  refine lCh (cAlloc (cs := [vB 0, .int .i64 0, vB 0, .bool false, .slice none 0 0, .slice none 0 0]) zer_97 rfl) rfl rfl fun b1 => ?_
  refine lNil ?_
  refine xCode ?_
  refine cSeq ?_
  refine cRegion ?_
  refine lRd (dMove (.t (.s .z))) rfl rfl ?_
  refine lCallE fok_63 (.c (.t .z) .n) (order_parser_place_c a0 b0_0 v0_1) (.c (.s .z) (.r (.s .z) .n)) rfl rfl (fun o2 x3 h4 => ?_) (fun o5 x6 h7 => ?_)
  · refine lRd (dMove (.t (.s (.s (.s .z))))) rfl rfl ?_
    refine lCallE fok_62 (.c (.t .z) .n) (order_parser_next_c o2.1 b0_0 v0_1) (.c .z (.r .z .n)) rfl rfl (fun o8 x9 h10 => ?_) (fun o11 x12 h13 => ?_)
    · refine lRd (dBuild (cs := [vB (60 : UInt8), .int .i64 o2.2, vB o8.2, .bool false, .slice none 0 0, .slice none 0 0]) zer_97 rfl plc_97 (.c (.c (v' := vB 60) rfl) (.c (.t (.s (.s .z))) (.c (.t .z) .n))) rfl) rfl rfl ?_
      refine lCh (cAlloc (cs := [vB 0, .int .i64 0, vB 0, .bool false, .slice none 0 0, .slice none 0 0]) zer_97 rfl) rfl rfl fun b14 => ?_
      refine lChU (uStoreA (us := [vB (60 : UInt8), .int .i64 o2.2, vB o8.2, .bool false, .slice none 0 0, .slice none 0 0]) (cs' := [vB (60 : UInt8), .int .i64 o2.2, vB o8.2, .bool false, .slice none 0 0, .slice none 0 0]) .z siz_97 rfl (by intro u hu; simp only [List.mem_cons, List.not_mem_nil, or_false] at hu; rcases hu with rfl | rfl | rfl | rfl | rfl | rfl <;> first | rfl | assumption) rfl (by simp) (.t .z) (.t (.s .z))) ?_
      refine lKeep (.k (.d (.d (.d (.d (.d (.k (.k .n)))))))) ?_
      refine lNil ?_
      refine xCode ?_
      refine cSeq ?_
      refine cBlock ?_
      refine cSeq ?_
      refine cRegion ?_
      refine lRd (dFld fld_97_2 (by decide) (.t .z) rfl) rfl rfl ?_
      refine lRd (dLoad .z agg_5 (.t .z) rfl) rfl rfl ?_
      refine lRd (dEqB (.t .z) (.c (v' := vB 8) rfl)) rfl rfl ?_
      refine lRd (dAssign (.t .z)) rfl rfl ?_
      refine lKeep (.k (.d (.d (.d (.k (.k (.k .n))))))) ?_
      refine lNil ?_
      refine xCode ?_
      refine cCond (.t .z) (fun h15 => ?_) (fun h15 => ?_)
      · refine cRegion ?_
        refine lRd (dMove (.t (.s (.s (.s .z))))) rfl rfl ?_
        refine lCallE fok_66 (.c (.t .z) .n) (order_parser_special_c o8.1 b0_0 v0_1) (.c (.s .z) (.r (.s .z) .n)) rfl rfl (fun o16 x17 h18 => ?_) (fun o19 x20 h21 => ?_)
        · refine lRd (dFld fld_97_3 (by decide) (.t (.s (.s (.s .z)))) rfl) rfl rfl ?_
          refine lChU (uStore (.s (.s .z)) siz_4 rfl (.s (.s (.s .z))) (.t .z) (.c rfl)) ?_
          refine lRd (dFld fld_97_2 (by decide) (.t (.s (.s (.s (.s .z))))) rfl) rfl rfl ?_
          refine lChU (uStore (.s (.s .z)) siz_5 rfl (.s (.s .z)) (.t .z) (.t (.s (.s .z)))) ?_
          refine lKeep (.d (.d (.d (.d (.d (.k (.k .n))))))) ?_
          refine lNil ?_
          refine xBlock ?_
          refine xCode ?_
          refine cSeq ?_
          refine cRegion ?_
          refine lRd (dLoadA (us := [vB (60 : UInt8), .int .i64 o2.2, vB o16.2, .bool true, .slice none 0 0, .slice none 0 0]) (.s (.s .z)) agg_97 siz_97 rfl (.t .z) rfl) rfl rfl ?_
          refine lChU (uStoreA (us := [vB (60 : UInt8), .int .i64 o2.2, vB o16.2, .bool true, .slice none 0 0, .slice none 0 0]) (cs' := [vB (60 : UInt8), .int .i64 o2.2, vB o16.2, .bool true, .slice none 0 0, .slice none 0 0]) (.s (.s (.s (.s (.s .z))))) siz_97 rfl (by intro u hu; simp only [List.mem_cons, List.not_mem_nil, or_false] at hu; rcases hu with rfl | rfl | rfl | rfl | rfl | rfl <;> first | rfl | assumption) rfl (by simp) (.t (.s (.s .z))) (.t .z)) ?_
          refine lKeep (.d (.d (.k .n))) ?_
          refine lNil ?_
          refine xCode ?_
          refine cRet ?_
          refine rLeave hD ?_
          refine lvSt (roNil k_api_Pair) ?_
          refine lvSt (roNil kB) ?_
          exact lvRet (rs := [.cell 2 97]) rfl (.a .z (.s (.s (.s (.s (.s (.s (.s .z))))))) agg_97 siz_97 .n) ((.slice none 0 0, .slice none 0 0), ()) rfl (.c (.s (.s .z)) (.c (.s (.s .z)) (.c (.s .z) (.c .z .nil))))
        · refine pDone hD ?_
          exact lvPan ((undef, undef), ()) rfl (.c .z (.c .z .nil))
      · refine cSeq ?_
        refine cRegion ?_
        refine lRd (dFld fld_97_2 (by decide) (.t (.s .z)) rfl) rfl rfl ?_
        refine lRd (dLoad .z agg_5 (.t .z) rfl) rfl rfl ?_
        refine lCall fok_60 (.c (.t .z) .n) (order_Plain_c o8.2) .n rfl rfl fun o22 x23 h24 => ?_
        refine lRd (dNot (.t .z)) rfl rfl ?_
        refine lRd (dAssign (.t .z)) rfl rfl ?_
        refine lKeep (.k (.d (.d (.d (.d (.d (.k (.k .n)))))))) ?_
        refine lNil ?_
        refine xCode ?_
        refine cCondB (.t .z) (fun h25 => ?_) (fun h25 => ?_)
        · refine cRegion ?_
          refine lRd (dBuild (cs := [.int .i64 31]) zer_94 rfl plc_94 (.c (.c rfl) .n) rfl) rfl rfl ?_
          refine lRd (dMkIface nif_94 (.t .z)) rfl rfl ?_
          refine lPanic (.t .z) ?_
          refine pDone hD ?_
          exact lvPan ((undef, undef), ()) rfl (.c (.s .z) (.c (.s .z) .nil))
        · refine cSkip ?_
          refine xBlock ?_
          refine xCode ?_
          refine cSeq ?_
          refine cRegion ?_
          refine lRd (dLoadA (us := [vB (60 : UInt8), .int .i64 o2.2, vB o8.2, .bool false, .slice none 0 0, .slice none 0 0]) .z agg_97 siz_97 rfl (.t (.s .z)) rfl) rfl rfl ?_
          refine lChU (uStoreA (us := [vB (60 : UInt8), .int .i64 o2.2, vB o8.2, .bool false, .slice none 0 0, .slice none 0 0]) (cs' := [vB (60 : UInt8), .int .i64 o2.2, vB o8.2, .bool false, .slice none 0 0, .slice none 0 0]) (.s (.s (.s (.s .z)))) siz_97 rfl (by intro u hu; simp only [List.mem_cons, List.not_mem_nil, or_false] at hu; rcases hu with rfl | rfl | rfl | rfl | rfl | rfl <;> first | rfl | assumption) rfl (by simp) (.t (.s (.s (.s .z)))) (.t .z)) ?_
          refine lKeep (.d (.d (.d (.k .n)))) ?_
          refine lNil ?_
          refine xCode ?_
          refine cRet ?_
          refine rLeave hD ?_
          refine lvSt (roNil k_api_Pair) ?_
          refine lvSt (roNil kB) ?_
          exact lvRet (rs := [.cell 2 97]) rfl (.a .z (.s (.s (.s (.s (.s (.s .z)))))) agg_97 siz_97 .n) ((.slice none 0 0, .slice none 0 0), ()) rfl (.c (.s (.s (.s .z))) (.c (.s (.s (.s .z))) (.c (.s .z) (.c .z .nil))))
    · refine pDone hD ?_
      exact lvPan ((undef, undef), ()) rfl (.c .z (.c .z .nil))
  · refine pDone hD ?_
    exact lvPan ((undef, undef), ()) rfl (.c .z (.c .z .nil))

-- (*greenscreen/order.parser).one
def order_parser_one_m (K : Nat) (a0 : order_parser) : Option (Sum (order_parser × api_Order) (order_parser × Int)) := (ix a0.f_b a0.f_at).bind fun y2 => (order_Plain_m y2).bind fun o5 => (if o5 = true then (order_parser_data_m K a0).bind fun o9 => some (Sum.inl (o9.1, o9.2)) else (order_parser_next_m a0).bind (onE (fun (o14 : order_parser × UInt8) => ((if o14.2 = (17 : UInt8) then some (decide (o14.2 = (17 : UInt8))) else some (decide (o14.2 = (18 : UInt8))))).bind fun (s21 : Bool) => (if s21 = true then (order_parser_place_m o14.1).bind (onE (fun (o24 : order_parser × Int) => some (Sum.inl (o24.1, (⟨o14.2, o24.2, 0, false, [], []⟩ : api_Order)))) (fun (o27 : order_parser × Int) => some (Sum.inr (o27.1, o27.2)))) else (if o14.2 = (29 : UInt8) then (order_parser_next_m o14.1).bind (onE (fun (o31 : order_parser × UInt8) => some (Sum.inl (o31.1, (⟨o14.2, 0, o31.2 &&& (63 : UInt8), false, [], []⟩ : api_Order)))) (fun (o34 : order_parser × Int) => some (Sum.inr (o34.1, o34.2)))) else ((if o14.2 = (41 : UInt8) then some (decide (o14.2 = (41 : UInt8))) else some (decide (o14.2 = (44 : UInt8))))).bind fun (s38 : Bool) => (if s38 = true then (order_parser_next_m o14.1).bind (onE (fun (o41 : order_parser × UInt8) => (order_parser_pairs_m K o41.1 o14.2 (o41.2.toNat : Int)).bind (onE (fun (o47 : order_parser × (List api_Pair)) => some (Sum.inl (o47.1, (⟨o14.2, 0, 0, false, o47.2, []⟩ : api_Order)))) (fun (o50 : order_parser × Int) => some (Sum.inr (o50.1, o50.2))))) (fun (o44 : order_parser × Int) => some (Sum.inr (o44.1, o44.2)))) else (if o14.2 = (40 : UInt8) then (order_parser_pairs_m K o14.1 o14.2 1).bind (onE (fun (o56 : order_parser × (List api_Pair)) => some (Sum.inl (o56.1, (⟨o14.2, 0, 0, false, o56.2, []⟩ : api_Order)))) (fun (o59 : order_parser × Int) => some (Sum.inr (o59.1, o59.2)))) else ((if o14.2 = (19 : UInt8) then some (decide (o14.2 = (19 : UInt8))) else some (decide (o14.2 = (5 : UInt8))))).bind fun (s65 : Bool) => (if s65 = true then some (Sum.inl (o14.1, (⟨o14.2, 0, 0, false, [], []⟩ : api_Order))) else (if o14.2 = (60 : UInt8) then (order_parser_repeat_m o14.1).bind (onE (fun (o69 : order_parser × api_Order) => some (Sum.inl (o69.1, o69.2))) (fun (o72 : order_parser × Int) => some (Sum.inr (o72.1, o72.2)))) else (if o14.2 = (8 : UInt8) then (order_parser_special_m o14.1).bind (onE (fun (o78 : order_parser × UInt8) => some (Sum.inl (o78.1, (⟨o14.2, 0, o78.2, false, [], []⟩ : api_Order)))) (fun (o81 : order_parser × Int) => some (Sum.inr (o81.1, o81.2)))) else some (Sum.inr (o14.1, 31)))))))))) (fun (o17 : order_parser × Int) => some (Sum.inr (o17.1, o17.2)))))
theorem order_parser_one_c (K : Nat) (a0 : order_parser) (b0_0 : Nat) (v0_1 : Value) : ConE Try.prog 44 #[.pointer (some ⟨b0_0, 0, none⟩)] [.blk b0_0 [v0_1, .int .i64 a0.f_at] 92, .ro (kSl kB) [v0_1] a0.f_b] (order_parser_one_m K a0) (resE (fun (o : order_parser × api_Order) (x : (Value × Value) × (Unit)) => .agg #[vB o.2.f_Kind, .int .i64 o.2.f_Addr, vB o.2.f_Byte, .bool o.2.f_GE, x.1.1, x.1.2]) (fun (e : order_parser × Int) (x : (Value × Value) × (Unit)) => .iface 94 (.agg #[.int .i64 e.2]))) (loE (fun (o : order_parser × api_Order) (x : (Value × Value) × (Unit)) => [.blk b0_0 [v0_1, .int .i64 o.1.f_at] 92, .ro (kSl kB) [v0_1] o.1.f_b, .ro (kSl k_api_Pair) [x.1.1] o.2.f_Pairs, .ro (kSl kB) [x.1.2] o.2.f_Data]) (fun (e : order_parser × Int) (x : (Value × Value) × (Unit)) => [.blk b0_0 [v0_1, .int .i64 e.1.f_at] 92, .ro (kSl kB) [v0_1] e.1.f_b])) := by
  unfold order_parser_one_m
  refine con (args := [.pointer (some ⟨b0_0, 0, none⟩)]) Try.func44 rfl 69 rfl (.c .n) rfl fun c hD hrn => ?_
  refine cSeq ?_
  refine cRegion ?_
  refine lCh (cAlloc (cs := [vB 0, .int .i64 0, vB 0, .bool false, .slice none 0 0, .slice none 0 0]) zer_97 rfl) rfl rfl fun b1 => ?_
  refine lNil ?_
  refine xCode ?_
  refine cSeq ?_
  refine cSeq ?_
  refine cRegionM [] [(0, .early), (1, .early), (2, .early), (3, .early), (4, .early), (5, .early), (6, .early), (7, .early), (8, .early), (9, .early), (10, .early)] mixed (by kernel_rfl) (.c .z (.c .z (.c .z .nil))) (.c (.c (.c .n))) ?_
  refine mRd rfl rfl (fun _ _ _ => dMove (.t (.s .z))) rfl rfl ?_
  refine mRd rfl rfl (fun _ _ _ => dNil (.t .z)) rfl rfl ?_
  refine mRd rfl rfl (fun _ _ _ => dFld fld_92_0 (by decide) (.t .z) rfl) rfl rfl ?_
  refine mRd rfl rfl (fun _ _ _ => dLoad (.s .z) agg_34 (.t .z) rfl) rfl rfl ?_
  refine mRd rfl rfl (fun _ _ _ => dMove (.t (.s (.s (.s (.s (.s .z))))))) rfl rfl ?_
  refine mRd rfl rfl (fun _ _ _ => dNil (.t .z)) rfl rfl ?_
  refine mRd rfl rfl (fun _ _ _ => dFld fld_92_1 (by decide) (.t .z) rfl) rfl rfl ?_
  refine mRd rfl rfl (fun _ _ _ => dLoad (.s .z) agg_3 (.t .z) rfl) rfl rfl ?_
  refine mIx fun y2 h3 h4 => ?_
  refine mRd rfl rfl (fun _ _ _ => dIxAddr (slRo (.s (.s .z))) und_34 siz_5 (.t (.s (.s (.s (.s .z))))) (.t .z) h3 h4) rfl rfl ?_
  refine mRd rfl rfl (fun _ _ _ => dLoadE (slRo (.s (.s .z))) agg_5 (.t .z) h4 (fun _ _ h => by cases h; rfl)) rfl rfl ?_
  refine mCallQ rfl rfl fok_60 (.c (.t .z) .n) (order_Plain_c y2) .n (fun _ _ => rfl) (fun _ _ => (.c .z (.c .z (.c .z .nil)))) rfl rfl fun o5 h7 => ?_
  refine mKeep (.k (.d (.d (.d (.d (.d (.d (.d (.d (.d (.d (.k (.k .n))))))))))))) ?_
  refine mNil ?_
  refine xCode ?_
  refine cCondB (.t .z) (fun h8 => ?_) (fun h8 => ?_)
  · refine cSeq ?_
    refine cRegion ?_
    refine lRd (dMove (.t (.s (.s .z)))) rfl rfl ?_
    refine lCall fok_61 (.c (.t .z) .n) (order_parser_data_c K a0 b0_0 v0_1) (.c (.s .z) (.r (.s .z) .n)) rfl rfl fun o9 x10 h11 => ?_
    refine lFact (oneRo (.s (.s .z))) fun h12 => ?_
    refine lFact (oneRo (.s (.s (.s .z)))) fun h13 => ?_
    refine lChU (uStoreA (us := [vB o9.2.f_Kind, .int .i64 o9.2.f_Addr, vB o9.2.f_Byte, .bool o9.2.f_GE, x10.1, x10.2]) (cs' := [vB o9.2.f_Kind, .int .i64 o9.2.f_Addr, vB o9.2.f_Byte, .bool o9.2.f_GE, x10.1, x10.2]) (.s (.s (.s (.s .z)))) siz_97 rfl (by intro u hu; simp only [List.mem_cons, List.not_mem_nil, or_false] at hu; rcases hu with rfl | rfl | rfl | rfl | rfl | rfl <;> first | rfl | assumption) rfl (by simp) (.t (.s (.s (.s .z)))) (.t .z)) ?_
    refine lKeep (.d (.d (.d (.k (.k .n))))) ?_
    refine lNil ?_
    refine xCode ?_
    refine cRet ?_
    refine rLeave hD ?_
    exact lvRet (rs := [.cell 2 97]) rfl (.a .z (.s (.s (.s (.s .z)))) agg_97 siz_97 .n) ((x10.1, x10.2), ()) rfl (.c .z (.c .z (.c .z (.c .z .nil))))
  · refine cSkip ?_
    refine xCode ?_
    refine cSeq ?_
    refine cSeq ?_
    refine cRegion ?_
    refine lRd (dMove (.t (.s (.s .z)))) rfl rfl ?_
    refine lCallE fok_62 (.c (.t .z) .n) (order_parser_next_c a0 b0_0 v0_1) (.c (.s .z) (.r (.s .z) .n)) rfl rfl (fun o14 x15 h16 => ?_) (fun o17 x18 h19 => ?_)
    · refine lRd (dAssign (.t .z)) rfl rfl ?_
      refine lKeep (.k (.d (.d (.d (.k (.k .n)))))) ?_
      refine lNil ?_
      refine xCode ?_
      refine cSeq ?_
      refine cRegion ?_
      refine lRd (dMove (.t .z)) rfl rfl ?_
      refine lNil ?_
      refine xCode ?_
      refine cBlock ?_
      refine cSeq ?_
      refine cSeq ?_
      refine cRegion ?_
      refine lRd (dEqB (.t .z) (.c (v' := vB 17) rfl)) rfl rfl ?_
      refine lRd (dAssign (.t .z)) rfl rfl ?_
      refine lKeep (.k (.d (.k (.k (.k (.k .n)))))) ?_
      refine lNil ?_
      refine xCode ?_
      refine cJoin (S := Bool) (X := Unit) (fun (s : Bool) (x : Unit) => [(20, .bool s), (19, vB o14.2), (3, vB o14.2), (2, .pointer (some ⟨b1, 0, none⟩)), (0, .pointer (some ⟨b0_0, 0, none⟩))]) (fun (s : Bool) (x : Unit) => [.blk b0_0 [v0_1, .int .i64 o14.1.f_at] 92, .ro (kSl kB) [v0_1] o14.1.f_b, .blk b1 [vB 0, .int .i64 0, vB 0, .bool false, .slice none 0 0, .slice none 0 0] 97, .ro (kSl kB) [v0_1] a0.f_b]) ?_ (fun s21 x22 => ?_)
      · refine cCond (.t .z) (fun h20 => ?_) (fun h20 => ?_)
        · refine cSkip ?_
          exact xJoin (decide (o14.2 = (17 : UInt8))) () (.c .z (.c (.s .z) (.c (.s (.s .z)) (.c (.s (.s (.s .z))) (.c (.s (.s (.s (.s .z)))) .n))))) (.c .z (.c .z (.c .z (.c .z .nil))))
        · refine cRegion ?_
          refine lRd (dEqB (.t (.s .z)) (.c (v' := vB 18) rfl)) rfl rfl ?_
          refine lRdK (dAssign (.t .z)) (.k (.d (Keep.refl _))) rfl rfl ?_
          refine lKeep (.k (.d (.k (.k (.k (.k .n)))))) ?_
          refine lNil ?_
          exact xJoin (decide (o14.2 = (18 : UInt8))) () (.c .z (.c (.s .z) (.c (.s (.s .z)) (.c (.s (.s (.s .z))) (.c (.s (.s (.s (.s .z)))) .n))))) (.c .z (.c .z (.c .z (.c .z .nil))))
      · refine xCode ?_
        refine cCondB (.t .z) (fun h23 => ?_) (fun h23 => ?_)
        · refine cSeq ?_
          refine cRegion ?_
          refine lRd (dMove (.t (.s (.s .z)))) rfl rfl ?_
          refine lRd (dMove (.t (.s (.s (.s (.s (.s .z))))))) rfl rfl ?_
          refine lCallE fok_63 (.c (.t .z) .n) (order_parser_place_c o14.1 b0_0 v0_1) (.c .z (.r .z .n)) rfl rfl (fun o24 x25 h26 => ?_) (fun o27 x28 h29 => ?_)
          · refine lRd (dBuild (cs := [vB o14.2, .int .i64 o24.2, vB 0, .bool false, .slice none 0 0, .slice none 0 0]) zer_97 rfl plc_97 (.c (.t (.s (.s .z))) (.c (.t .z) .n)) rfl) rfl rfl ?_
            refine lChU (uStoreA (us := [vB o14.2, .int .i64 o24.2, vB 0, .bool false, .slice none 0 0, .slice none 0 0]) (cs' := [vB o14.2, .int .i64 o24.2, vB 0, .bool false, .slice none 0 0, .slice none 0 0]) (.s (.s (.s .z))) siz_97 rfl (by intro u hu; simp only [List.mem_cons, List.not_mem_nil, or_false] at hu; rcases hu with rfl | rfl | rfl | rfl | rfl | rfl <;> first | rfl | assumption) rfl (by simp) (.t (.s (.s (.s (.s (.s (.s (.s .z)))))))) (.t .z)) ?_
            refine lKeep (.d (.d (.d (.d (.d (.d (.d (.k .n)))))))) ?_
            refine lNil ?_
            refine xCode ?_
            refine cRet ?_
            refine rLeave hD ?_
            refine lvSt (roNil k_api_Pair) ?_
            refine lvSt (roNil kB) ?_
            exact lvRet (rs := [.cell 2 97]) rfl (.a .z (.s (.s (.s (.s (.s .z))))) agg_97 siz_97 .n) ((.slice none 0 0, .slice none 0 0), ()) rfl (.c (.s (.s .z)) (.c (.s (.s .z)) (.c (.s .z) (.c .z .nil))))
          · refine pDone hD ?_
            exact lvPan ((undef, undef), ()) rfl (.c .z (.c .z .nil))
        · refine cSeq ?_
          refine cRegion ?_
          refine lRd (dEqB (.t (.s .z)) (.c (v' := vB 29) rfl)) rfl rfl ?_
          refine lRd (dAssign (.t .z)) rfl rfl ?_
          refine lKeep (.k (.d (.d (.k (.k (.k (.k .n))))))) ?_
          refine lNil ?_
          refine xCode ?_
          refine cCond (.t .z) (fun h30 => ?_) (fun h30 => ?_)
          · refine cSeq ?_
            refine cRegion ?_
            refine lRd (dMove (.t (.s (.s .z)))) rfl rfl ?_
            refine lRd (dMove (.t (.s (.s (.s (.s (.s .z))))))) rfl rfl ?_
            refine lCallE fok_62 (.c (.t .z) .n) (order_parser_next_c o14.1 b0_0 v0_1) (.c .z (.r .z .n)) rfl rfl (fun o31 x32 h33 => ?_) (fun o34 x35 h36 => ?_)
            · refine lRd (dAndB (.t .z) (.c (v' := vB 63) rfl)) rfl rfl ?_
              refine lRd (dBuild (cs := [vB o14.2, .int .i64 0, vB (o31.2 &&& (63 : UInt8)), .bool false, .slice none 0 0, .slice none 0 0]) zer_97 rfl plc_97 (.c (.t (.s (.s (.s .z)))) (.c (.t .z) .n)) rfl) rfl rfl ?_
              refine lChU (uStoreA (us := [vB o14.2, .int .i64 0, vB (o31.2 &&& (63 : UInt8)), .bool false, .slice none 0 0, .slice none 0 0]) (cs' := [vB o14.2, .int .i64 0, vB (o31.2 &&& (63 : UInt8)), .bool false, .slice none 0 0, .slice none 0 0]) (.s (.s (.s .z))) siz_97 rfl (by intro u hu; simp only [List.mem_cons, List.not_mem_nil, or_false] at hu; rcases hu with rfl | rfl | rfl | rfl | rfl | rfl <;> first | rfl | assumption) rfl (by simp) (.t (.s (.s (.s (.s (.s (.s (.s (.s .z))))))))) (.t .z)) ?_
              refine lKeep (.d (.d (.d (.d (.d (.d (.d (.d (.k .n))))))))) ?_
              refine lNil ?_
              refine xCode ?_
              refine cRet ?_
              refine rLeave hD ?_
              refine lvSt (roNil k_api_Pair) ?_
              refine lvSt (roNil kB) ?_
              exact lvRet (rs := [.cell 2 97]) rfl (.a .z (.s (.s (.s (.s (.s .z))))) agg_97 siz_97 .n) ((.slice none 0 0, .slice none 0 0), ()) rfl (.c (.s (.s .z)) (.c (.s (.s .z)) (.c (.s .z) (.c .z .nil))))
            · refine pDone hD ?_
              exact lvPan ((undef, undef), ()) rfl (.c .z (.c .z .nil))
          · refine cSeq ?_
            refine cSeq ?_
            refine cRegion ?_
            refine lRd (dEqB (.t (.s .z)) (.c (v' := vB 41) rfl)) rfl rfl ?_
            refine lRd (dAssign (.t .z)) rfl rfl ?_
            refine lKeep (.k (.d (.d (.k (.k (.k (.k .n))))))) ?_
            refine lNil ?_
            refine xCode ?_
            refine cJoin (S := Bool) (X := Unit) (fun (s : Bool) (x : Unit) => [(34, .bool s), (19, vB o14.2), (3, vB o14.2), (2, .pointer (some ⟨b1, 0, none⟩)), (0, .pointer (some ⟨b0_0, 0, none⟩))]) (fun (s : Bool) (x : Unit) => [.blk b0_0 [v0_1, .int .i64 o14.1.f_at] 92, .ro (kSl kB) [v0_1] o14.1.f_b, .blk b1 [vB 0, .int .i64 0, vB 0, .bool false, .slice none 0 0, .slice none 0 0] 97, .ro (kSl kB) [v0_1] a0.f_b]) ?_ (fun s38 x39 => ?_)
            · refine cCond (.t .z) (fun h37 => ?_) (fun h37 => ?_)
              · refine cSkip ?_
                exact xJoin (decide (o14.2 = (41 : UInt8))) () (.c .z (.c (.s .z) (.c (.s (.s .z)) (.c (.s (.s (.s .z))) (.c (.s (.s (.s (.s .z)))) .n))))) (.c .z (.c .z (.c .z (.c .z .nil))))
              · refine cRegion ?_
                refine lRd (dEqB (.t (.s .z)) (.c (v' := vB 44) rfl)) rfl rfl ?_
                refine lRdK (dAssign (.t .z)) (.k (.d (Keep.refl _))) rfl rfl ?_
                refine lKeep (.k (.d (.k (.k (.k (.k .n)))))) ?_
                refine lNil ?_
                exact xJoin (decide (o14.2 = (44 : UInt8))) () (.c .z (.c (.s .z) (.c (.s (.s .z)) (.c (.s (.s (.s .z))) (.c (.s (.s (.s (.s .z)))) .n))))) (.c .z (.c .z (.c .z (.c .z .nil))))
            · refine xCode ?_
              refine cCondB (.t .z) (fun h40 => ?_) (fun h40 => ?_)
              · refine cSeq ?_
                refine cRegion ?_
                refine lRd (dMove (.t (.s (.s .z)))) rfl rfl ?_
                refine lRd (dMove (.t (.s (.s (.s (.s (.s .z))))))) rfl rfl ?_
                refine lRd (dMove (.t (.s (.s (.s (.s .z)))))) rfl rfl ?_
                refine lRd (dMove (.t (.s (.s (.s (.s (.s (.s (.s .z))))))))) rfl rfl ?_
                refine lCallE fok_62 (.c (.t .z) .n) (order_parser_next_c o14.1 b0_0 v0_1) (.c .z (.r .z .n)) rfl rfl (fun o41 x42 h43 => ?_) (fun o44 x45 h46 => ?_)
                · refine lRd (dConvB som_5 und_3 rfl (.t .z)) rfl rfl ?_
                  refine lCallE fok_64 (.c (.t (.s (.s (.s (.s .z))))) (.c (.t (.s (.s (.s .z)))) (.c (.t .z) .n))) (order_parser_pairs_c K o41.1 o14.2 (o41.2.toNat : Int) b0_0 v0_1) (.c .z (.r .z .n)) rfl rfl (fun o47 x48 h49 => ?_) (fun o50 x51 h52 => ?_)
                  · refine lSt (SX.freeze (Upd.s (Upd.s Upd.z))) ?_
                    refine lFact (oneRo (.s (.s .z))) fun h53 => ?_
                    refine lRd (dBuild (cs := [vB o14.2, .int .i64 0, vB 0, .bool false, x48.1, .slice none 0 0]) zer_97 rfl plc_97 (.c (.t (.s (.s (.s (.s (.s (.s .z))))))) (.c (.t .z) .n)) (by simp only [fillL, cells_one h53] <;> rfl)) rfl rfl ?_
                    refine lFact (oneRo (.s (.s .z))) fun h54 => ?_
                    refine lChU (uStoreA (us := [vB o14.2, .int .i64 0, vB 0, .bool false, x48.1, .slice none 0 0]) (cs' := [vB o14.2, .int .i64 0, vB 0, .bool false, x48.1, .slice none 0 0]) (.s (.s (.s (.s (.s .z))))) siz_97 rfl (by intro u hu; simp only [List.mem_cons, List.not_mem_nil, or_false] at hu; rcases hu with rfl | rfl | rfl | rfl | rfl | rfl <;> first | rfl | assumption) rfl (by simp) (.t (.s (.s (.s (.s (.s (.s (.s (.s (.s (.s (.s .z)))))))))))) (.t .z)) ?_
                    refine lKeep (.d (.d (.d (.d (.d (.d (.d (.d (.d (.d (.d (.k .n)))))))))))) ?_
                    refine lNil ?_
                    refine xCode ?_
                    refine cRet ?_
                    refine rLeave hD ?_
                    refine lvSt (roNil kB) ?_
                    exact lvRet (rs := [.cell 2 97]) rfl (.a .z (.s (.s (.s (.s (.s (.s .z)))))) agg_97 siz_97 .n) ((x48.1, .slice none 0 0), ()) rfl (.c (.s .z) (.c (.s .z) (.c (.s .z) (.c .z .nil))))
                  · refine pDone hD ?_
                    exact lvPan ((undef, undef), ()) rfl (.c .z (.c .z .nil))
                · refine pDone hD ?_
                  exact lvPan ((undef, undef), ()) rfl (.c .z (.c .z .nil))
              · refine cSeq ?_
                refine cRegion ?_
                refine lRd (dEqB (.t (.s .z)) (.c (v' := vB 40) rfl)) rfl rfl ?_
                refine lRd (dAssign (.t .z)) rfl rfl ?_
                refine lKeep (.k (.d (.d (.k (.k (.k (.k .n))))))) ?_
                refine lNil ?_
                refine xCode ?_
                refine cCond (.t .z) (fun h55 => ?_) (fun h55 => ?_)
                · refine cSeq ?_
                  refine cRegion ?_
                  refine lRd (dMove (.t (.s (.s .z)))) rfl rfl ?_
                  refine lRd (dMove (.t (.s (.s (.s (.s (.s .z))))))) rfl rfl ?_
                  refine lRd (dMove (.t (.s (.s (.s (.s .z)))))) rfl rfl ?_
                  refine lCallE fok_64 (.c (.t (.s .z)) (.c (.t .z) (.c (.c rfl) .n))) (order_parser_pairs_c K o14.1 o14.2 1 b0_0 v0_1) (.c .z (.r .z .n)) rfl rfl (fun o56 x57 h58 => ?_) (fun o59 x60 h61 => ?_)
                  · refine lSt (SX.freeze (Upd.s (Upd.s Upd.z))) ?_
                    refine lFact (oneRo (.s (.s .z))) fun h62 => ?_
                    refine lRd (dBuild (cs := [vB o14.2, .int .i64 0, vB 0, .bool false, x57.1, .slice none 0 0]) zer_97 rfl plc_97 (.c (.t (.s (.s (.s .z)))) (.c (.t .z) .n)) (by simp only [fillL, cells_one h62] <;> rfl)) rfl rfl ?_
                    refine lFact (oneRo (.s (.s .z))) fun h63 => ?_
                    refine lChU (uStoreA (us := [vB o14.2, .int .i64 0, vB 0, .bool false, x57.1, .slice none 0 0]) (cs' := [vB o14.2, .int .i64 0, vB 0, .bool false, x57.1, .slice none 0 0]) (.s (.s (.s (.s .z)))) siz_97 rfl (by intro u hu; simp only [List.mem_cons, List.not_mem_nil, or_false] at hu; rcases hu with rfl | rfl | rfl | rfl | rfl | rfl <;> first | rfl | assumption) rfl (by simp) (.t (.s (.s (.s (.s (.s (.s (.s (.s .z))))))))) (.t .z)) ?_
                    refine lKeep (.d (.d (.d (.d (.d (.d (.d (.d (.k .n))))))))) ?_
                    refine lNil ?_
                    refine xCode ?_
                    refine cRet ?_
                    refine rLeave hD ?_
                    refine lvSt (roNil kB) ?_
                    exact lvRet (rs := [.cell 2 97]) rfl (.a .z (.s (.s (.s (.s (.s .z))))) agg_97 siz_97 .n) ((x57.1, .slice none 0 0), ()) rfl (.c (.s .z) (.c (.s .z) (.c (.s .z) (.c .z .nil))))
                  · refine pDone hD ?_
                    exact lvPan ((undef, undef), ()) rfl (.c .z (.c .z .nil))
                · refine cSeq ?_
                  refine cSeq ?_
                  refine cRegion ?_
                  refine lRd (dEqB (.t (.s .z)) (.c (v' := vB 19) rfl)) rfl rfl ?_
                  refine lRd (dAssign (.t .z)) rfl rfl ?_
                  refine lKeep (.k (.d (.d (.k (.k (.k (.k .n))))))) ?_
                  refine lNil ?_
                  refine xCode ?_
                  refine cJoin (S := Bool) (X := Unit) (fun (s : Bool) (x : Unit) => [(52, .bool s), (19, vB o14.2), (3, vB o14.2), (2, .pointer (some ⟨b1, 0, none⟩)), (0, .pointer (some ⟨b0_0, 0, none⟩))]) (fun (s : Bool) (x : Unit) => [.blk b0_0 [v0_1, .int .i64 o14.1.f_at] 92, .ro (kSl kB) [v0_1] o14.1.f_b, .blk b1 [vB 0, .int .i64 0, vB 0, .bool false, .slice none 0 0, .slice none 0 0] 97, .ro (kSl kB) [v0_1] a0.f_b]) ?_ (fun s65 x66 => ?_)
                  · refine cCond (.t .z) (fun h64 => ?_) (fun h64 => ?_)
                    · refine cSkip ?_
                      exact xJoin (decide (o14.2 = (19 : UInt8))) () (.c .z (.c (.s .z) (.c (.s (.s .z)) (.c (.s (.s (.s .z))) (.c (.s (.s (.s (.s .z)))) .n))))) (.c .z (.c .z (.c .z (.c .z .nil))))
                    · refine cRegion ?_
                      refine lRd (dEqB (.t (.s .z)) (.c (v' := vB 5) rfl)) rfl rfl ?_
                      refine lRdK (dAssign (.t .z)) (.k (.d (Keep.refl _))) rfl rfl ?_
                      refine lKeep (.k (.d (.k (.k (.k (.k .n)))))) ?_
                      refine lNil ?_
                      exact xJoin (decide (o14.2 = (5 : UInt8))) () (.c .z (.c (.s .z) (.c (.s (.s .z)) (.c (.s (.s (.s .z))) (.c (.s (.s (.s (.s .z)))) .n))))) (.c .z (.c .z (.c .z (.c .z .nil))))
                  · refine xCode ?_
                    refine cCondB (.t .z) (fun h67 => ?_) (fun h67 => ?_)
                    · refine cSeq ?_
                      refine cRegion ?_
                      refine lRd (dMove (.t (.s (.s .z)))) rfl rfl ?_
                      refine lRd (dBuild (cs := [vB o14.2, .int .i64 0, vB 0, .bool false, .slice none 0 0, .slice none 0 0]) zer_97 rfl plc_97 (.c (.t .z) .n) rfl) rfl rfl ?_
                      refine lChU (uStoreA (us := [vB o14.2, .int .i64 0, vB 0, .bool false, .slice none 0 0, .slice none 0 0]) (cs' := [vB o14.2, .int .i64 0, vB 0, .bool false, .slice none 0 0, .slice none 0 0]) (.s (.s .z)) siz_97 rfl (by intro u hu; simp only [List.mem_cons, List.not_mem_nil, or_false] at hu; rcases hu with rfl | rfl | rfl | rfl | rfl | rfl <;> first | rfl | assumption) rfl (by simp) (.t (.s (.s (.s (.s (.s .z)))))) (.t .z)) ?_
                      refine lKeep (.d (.d (.d (.d (.d (.k .n)))))) ?_
                      refine lNil ?_
                      refine xCode ?_
                      refine cRet ?_
                      refine rLeave hD ?_
                      refine lvSt (roNil k_api_Pair) ?_
                      refine lvSt (roNil kB) ?_
                      exact lvRet (rs := [.cell 2 97]) rfl (.a .z (.s (.s (.s (.s .z)))) agg_97 siz_97 .n) ((.slice none 0 0, .slice none 0 0), ()) rfl (.c (.s (.s .z)) (.c (.s (.s .z)) (.c (.s .z) (.c .z .nil))))
                    · refine cSeq ?_
                      refine cRegion ?_
                      refine lRd (dEqB (.t (.s .z)) (.c (v' := vB 60) rfl)) rfl rfl ?_
                      refine lRd (dAssign (.t .z)) rfl rfl ?_
                      refine lKeep (.k (.d (.d (.k (.k (.k (.k .n))))))) ?_
                      refine lNil ?_
                      refine xCode ?_
                      refine cCond (.t .z) (fun h68 => ?_) (fun h68 => ?_)
                      · refine cSeq ?_
                        refine cRegion ?_
                        refine lRd (dMove (.t (.s (.s (.s (.s .z)))))) rfl rfl ?_
                        refine lCallE fok_65 (.c (.t .z) .n) (order_parser_repeat_c o14.1 b0_0 v0_1) (.c .z (.r .z .n)) rfl rfl (fun o69 x70 h71 => ?_) (fun o72 x73 h74 => ?_)
                        · refine lFact (oneRo (.s (.s .z))) fun h75 => ?_
                          refine lFact (oneRo (.s (.s (.s .z)))) fun h76 => ?_
                          refine lChU (uStoreA (us := [vB o69.2.f_Kind, .int .i64 o69.2.f_Addr, vB o69.2.f_Byte, .bool o69.2.f_GE, x70.1.1, x70.1.2]) (cs' := [vB o69.2.f_Kind, .int .i64 o69.2.f_Addr, vB o69.2.f_Byte, .bool o69.2.f_GE, x70.1.1, x70.1.2]) (.s (.s (.s (.s (.s .z))))) siz_97 rfl (by intro u hu; simp only [List.mem_cons, List.not_mem_nil, or_false] at hu; rcases hu with rfl | rfl | rfl | rfl | rfl | rfl <;> first | rfl | assumption) rfl (by simp) (.t (.s (.s (.s (.s (.s .z)))))) (.t .z)) ?_
                          refine lKeep (.d (.d (.d (.d (.d (.k .n)))))) ?_
                          refine lNil ?_
                          refine xCode ?_
                          refine cRet ?_
                          refine rLeave hD ?_
                          exact lvRet (rs := [.cell 2 97]) rfl (.a .z (.s (.s (.s (.s (.s .z))))) agg_97 siz_97 .n) ((x70.1.1, x70.1.2), ()) rfl (.c .z (.c .z (.c .z (.c .z .nil))))
                        · refine pDone hD ?_
                          exact lvPan ((undef, undef), ()) rfl (.c .z (.c .z .nil))
                      · refine cSeq ?_
                        refine cRegion ?_
                        refine lRd (dEqB (.t (.s .z)) (.c (v' := vB 8) rfl)) rfl rfl ?_
                        refine lRd (dAssign (.t .z)) rfl rfl ?_
                        refine lKeep (.k (.d (.d (.d (.k (.k (.k .n))))))) ?_
                        refine lNil ?_
                        refine xCode ?_
                        refine cCond (.t .z) (fun h77 => ?_) (fun h77 => ?_)
                        · refine cSeq ?_
                          refine cRegion ?_
                          refine lRd (dMove (.t (.s .z))) rfl rfl ?_
                          refine lRd (dMove (.t (.s (.s (.s (.s .z)))))) rfl rfl ?_
                          refine lCallE fok_66 (.c (.t .z) .n) (order_parser_special_c o14.1 b0_0 v0_1) (.c .z (.r .z .n)) rfl rfl (fun o78 x79 h80 => ?_) (fun o81 x82 h83 => ?_)
                          · refine lRd (dBuild (cs := [vB o14.2, .int .i64 0, vB o78.2, .bool false, .slice none 0 0, .slice none 0 0]) zer_97 rfl plc_97 (.c (.t (.s (.s .z))) (.c (.t .z) .n)) rfl) rfl rfl ?_
                            refine lChU (uStoreA (us := [vB o14.2, .int .i64 0, vB o78.2, .bool false, .slice none 0 0, .slice none 0 0]) (cs' := [vB o14.2, .int .i64 0, vB o78.2, .bool false, .slice none 0 0, .slice none 0 0]) (.s (.s (.s .z))) siz_97 rfl (by intro u hu; simp only [List.mem_cons, List.not_mem_nil, or_false] at hu; rcases hu with rfl | rfl | rfl | rfl | rfl | rfl <;> first | rfl | assumption) rfl (by simp) (.t (.s (.s (.s (.s (.s (.s .z))))))) (.t .z)) ?_
                            refine lKeep (.d (.d (.d (.d (.d (.d (.k .n))))))) ?_
                            refine lNil ?_
                            refine xCode ?_
                            refine cRet ?_
                            refine rLeave hD ?_
                            refine lvSt (roNil k_api_Pair) ?_
                            refine lvSt (roNil kB) ?_
                            exact lvRet (rs := [.cell 2 97]) rfl (.a .z (.s (.s (.s (.s (.s .z))))) agg_97 siz_97 .n) ((.slice none 0 0, .slice none 0 0), ()) rfl (.c (.s (.s .z)) (.c (.s (.s .z)) (.c (.s .z) (.c .z .nil))))
                          · refine pDone hD ?_
                            exact lvPan ((undef, undef), ()) rfl (.c .z (.c .z .nil))
                        · refine cSkip ?_
                          refine xBlock ?_
                          refine xCode ?_
                          refine cRegion ?_
                          refine lRd (dBuild (cs := [.int .i64 31]) zer_94 rfl plc_94 (.c (.c rfl) .n) rfl) rfl rfl ?_
                          refine lRd (dMkIface nif_94 (.t .z)) rfl rfl ?_
                          refine lPanic (.t .z) ?_
                          refine pDone hD ?_
                          exact lvPan ((undef, undef), ()) rfl (.c .z (.c .z .nil))
    · refine pDone hD ?_
      exact lvPan ((undef, undef), ()) rfl (.c .z (.c .z .nil))

-- greenscreen/order.Parse
def order_Parse_l1 (K : Nat) (a0 : (List UInt8)) : Nat → (Int × (List api_Order) × Int) → Option (Sum (Int × (List api_Order) × Int) ((List api_Order) × Int × Int))
  | 0, _ => none
  | n + 1, s4 => (if s4.2.2 < (a0.length : Int) then (order_parser_one_m K (⟨a0, s4.2.2⟩ : order_parser)).bind (onE (fun (o10 : order_parser × api_Order) => (app s4.2.1 ([o10.2] : List api_Order)).bind fun zs20 => (order_Parse_l1 K a0 n) (o10.1.f_at, zs20, o10.1.f_at)) (fun (o13 : order_parser × Int) => some (Sum.inr (s4.2.1, s4.1, o13.2)))) else some (Sum.inl (s4.1, s4.2.1, s4.2.2)))
def order_Parse_m (K : Nat) (a0 : (List UInt8)) : Option ((List api_Order) × Int × Int) := (order_Parse_l1 K a0 K (0, [], 0)).bind (onS fun (s24 : Int × (List api_Order) × Int) => some (s24.2.1, s24.1, 0))
theorem order_Parse_c (K : Nat) (a0 : (List UInt8)) (v0_0 : Value) : Con Try.prog 30 #[v0_0] [.ro (kSl kB) [v0_0] a0] (order_Parse_m K a0) (fun (o : (List api_Order) × Int × Int) (x : Value) => .tuple #[x, .int .i64 o.2.1, .int .i64 o.2.2]) (fun (o : (List api_Order) × Int × Int) (x : Value) => [.ro (kSl k_api_Order) [x] o.1]) := by
  unfold order_Parse_m
  refine con (args := [v0_0]) Try.func30 rfl 30 rfl (.c .n) rfl fun c hD hrn => ?_
  refine cSeq ?_
  refine cRegion ?_
  refine lRd (dAssign (.c rfl)) rfl rfl ?_
  refine lRd (dAssign (.c rfl)) rfl rfl ?_
  refine lCh (cAlloc (cs := [.int .i64 0]) zer_35 rfl) rfl rfl fun b1 => ?_
  refine lNil ?_
  refine xCode ?_
  refine cSeq ?_
  refine cRegion ?_
  refine lRd (dMove (.t (.s (.s (.s .z))))) rfl rfl ?_
  refine lFact (oneRo (.s .z)) fun h2 => ?_
  refine lRd (dBuild (cs := [v0_0, .int .i64 0]) zer_92 rfl plc_92 (.c (.t .z) .n) (by simp only [fillL, cells_one h2] <;> rfl)) rfl rfl ?_
  refine lCh (cBox (cs := [v0_0, .int .i64 0]) (.t .z) rfl) rfl rfl fun b3 => ?_
  refine lRd (dAssign (.t .z)) rfl rfl ?_
  refine lKeep (.k (.d (.d (.d (.k (.k (.k (.k .n)))))))) ?_
  refine lNil ?_
  refine xCode ?_
  refine cSeq ?_
  refine cRegion ?_
  refine lRd (dMakeFuncL (vs := [.pointer (some ⟨b1, 0, none⟩)]) (.c (.t (.s .z)) .n)) rfl rfl ?_
  refine lDefer (vs := []) (cap := [.pointer (some ⟨b1, 0, none⟩)]) hrn (.t .z) .n ?_
  refine lKeep (.d (.k (.k (.k (.k (.k .n)))))) ?_
  refine lNil ?_
  refine xCode ?_
  refine cSeq ?_
  refine cSt (ownNil 97 k_api_Order) ?_
  refine cLoopR (S := Int × (List api_Order) × Int) (X := Value) (S' := Int × (List api_Order) × Int) (X' := Value) (order_Parse_l1 K a0) (fun (s : Int × (List api_Order) × Int) (x : Value) => [(5, .pointer (some ⟨b3, 0, none⟩)), (4, .pointer (some ⟨b1, 0, none⟩)), (3, .int .i64 s.1), (2, x), (0, v0_0)]) (fun (s : Int × (List api_Order) × Int) (x : Value) => [.blk b3 [v0_0, .int .i64 s.2.2] 92, .blk b1 [.int .i64 0] 35, .ro (kSl kB) [v0_0] a0, .own x 97 k_api_Order s.2.1]) (fun (s : Int × (List api_Order) × Int) (x : Value) => [(4, .pointer (some ⟨b1, 0, none⟩)), (3, .int .i64 s.1), (2, x)]) (fun (s : Int × (List api_Order) × Int) (x : Value) => [.blk b3 [v0_0, .int .i64 s.2.2] 92, .blk b1 [.int .i64 0] 35, .ro (kSl kB) [v0_0] a0, .own x 97 k_api_Order s.2.1]) K (0, [], 0) (.slice none 0 0) (.c .z (.c (.s .z) (.c (.s (.s .z)) (.c (.s (.s (.s .z))) (.c (.s (.s (.s (.s .z)))) .n))))) (.c (.s .z) (.c (.s .z) (.c (.s .z) (.c .z .nil)))) (fun _ => rfl) (fun n6 I7 h8 s4 x5 => ?_) (fun s24 x25 => ?_)
  · rw [order_Parse_l1]
    refine cSeq ?_
    refine cSeq ?_
    refine cRegion ?_
    refine lRd (dMove (.t .z)) rfl rfl ?_
    refine lRd (dNil (.t .z)) rfl rfl ?_
    refine lRd (dFld fld_92_1 (by decide) (.t .z) rfl) rfl rfl ?_
    refine lRd (dLoad .z agg_3 (.t .z) rfl) rfl rfl ?_
    refine lRd (dMove (.t (.s (.s (.s (.s (.s (.s (.s (.s .z)))))))))) rfl rfl ?_
    refine lRd (dLen (at_ := #[34]) (slRo (.s (.s .z))) rfl und_34 (.t .z)) rfl rfl ?_
    refine lRd (dLt (.t (.s (.s .z))) (.t .z)) rfl rfl ?_
    refine lNil ?_
    refine xCode ?_
    refine cCond (.t .z) (fun h9 => ?_) (fun h9 => ?_)
    · refine cSkip ?_
      refine xCode ?_
      refine cBlock ?_
      refine cSeq ?_
      refine cRegion ?_
      refine lRd (dMove (.t (.s (.s (.s (.s (.s (.s (.s .z))))))))) rfl rfl ?_
      refine lCallE fok_44 (.c (.t .z) .n) (order_parser_one_c K (⟨a0, s4.2.2⟩ : order_parser) b3 v0_0) (.c .z (.r (.s .z) .n)) rfl rfl (fun o10 x11 h12 => ?_) (fun o13 x14 h15 => ?_)
      · refine lCh (cAlloc (cs := [vB 0, .int .i64 0, vB 0, .bool false, .slice none 0 0, .slice none 0 0]) zer_97 rfl) rfl rfl fun b16 => ?_
        refine lFact (oneRo (.s (.s (.s .z)))) fun h17 => ?_
        refine lFact (oneRo (.s (.s (.s (.s .z))))) fun h18 => ?_
        refine lChU (uStoreA (us := [vB o10.2.f_Kind, .int .i64 o10.2.f_Addr, vB o10.2.f_Byte, .bool o10.2.f_GE, x11.1.1, x11.1.2]) (cs' := [vB o10.2.f_Kind, .int .i64 o10.2.f_Addr, vB o10.2.f_Byte, .bool o10.2.f_GE, x11.1.1, x11.1.2]) .z siz_97 rfl (by intro u hu; simp only [List.mem_cons, List.not_mem_nil, or_false] at hu; rcases hu with rfl | rfl | rfl | rfl | rfl | rfl <;> first | rfl | assumption) rfl (by simp) (.t .z) (.t (.s .z))) ?_
        refine lNil ?_
        refine xCode ?_
        refine cRegionM [2, 3] [(0, .quiet), (1, .early), (4, .quiet), (5, .quiet), (6, .quiet), (7, .quiet), (2, .only), (3, .only), (8, .quiet), (9, .quiet)] mixed (by kernel_rfl) (.c .z (.c .z (.c .z (.c .z (.c .z (.c .z (.c .z (.c .z .nil)))))))) (.c (.c (.c (.c (.c (.c (.c .n))))))) ?_
        refine mRd rfl rfl (fun _ _ _ => dMove (.t (.s (.s (.s (.s (.s (.s (.s (.s (.s (.s (.s (.s (.s .z))))))))))))))) rfl rfl ?_
        refine mRd rfl rfl (fun _ _ _ => dLoadA (us := [vB o10.2.f_Kind, .int .i64 o10.2.f_Addr, vB o10.2.f_Byte, .bool o10.2.f_GE, x11.1.1, x11.1.2]) .z agg_97 siz_97 rfl (.t (.s .z)) rfl) rfl rfl ?_
        refine mRd rfl rfl (fun _ _ _ => dMove (.t (.s (.s (.s (.s (.s (.s (.s (.s (.s (.s (.s (.s .z)))))))))))))) rfl rfl ?_
        refine mRd rfl rfl (fun _ _ _ => dNil (.t .z)) rfl rfl ?_
        refine mRd rfl rfl (fun _ _ _ => dFld fld_92_1 (by decide) (.t .z) rfl) rfl rfl ?_
        refine mRd rfl rfl (fun _ _ _ => dLoad (.s .z) agg_3 (.t .z) rfl) rfl rfl ?_
        refine mCh rfl rfl (cBuildSlice (te := 97) (k := k_api_Order) (css := [[vB o10.2.f_Kind, .int .i64 o10.2.f_Addr, vB o10.2.f_Byte, .bool o10.2.f_GE, x11.1.1, x11.1.2]]) (xs := ([o10.2] : List api_Order)) und_55 siz_97 zer_97 rfl (by decide) rfl (.c (.t (.s (.s (.s (.s .z))))) .n) rfl (fun zs h => match zs, h with | [_, _, _, _, _, _], _ => rfl) rfl (fun R h hs => (.cons (⟨x11.1.1, x11.1.2, rfl, roAt (.s (.s (.s .z))) hs, roAt (.s (.s (.s (.s .z)))) hs⟩) .nil))) (fun b19 => (.c (.s .z) (.c (.s .z) (.c (.s .z) (.c (.s .z) (.c (.s .z) (.c (.s .z) (.c (.s .z) (.c .z (.c .z .nil)))))))))) (fun _ => (.c (.c (.c (.c (.c (.c (.c .n)))))))) rfl rfl fun b19 => ?_
        refine mBind fun zs20 h21 => ?_
        refine mCh rfl rfl (cAppend (xs := s4.2.1) (ys := ([o10.2] : List api_Order)) (.s (.s (.s (.s (.s (.s (.s (.s .z)))))))) (srcOwn (.s (.s (.s (.s (.s (.s (.s .z)))))))) (.t (.s (.s (.s (.s (.s (.s .z))))))) (.t .z) und_55 und_55 rfl inf_97 rfl (by decide) h21) (fun v22 => (.c (.s .z) (.c (.s .z) (.c (.s .z) (.c (.s .z) (.c (.s .z) (.c (.s .z) (.c (.s .z) (.c .z (.c .z .nil)))))))))) (fun _ => (.c (.c (.c (.c (.c (.c (.c .n)))))))) rfl rfl fun v22 => ?_
        refine mRdK rfl rfl (fun _ _ _ => dAssign (.t .z)) (.k (.k (.k (.k (.k (.k (.k (.k (.k (.k (.k (.k (.k (.k (.k (.k (.k (.k (.k (.k (.k (.d (Keep.refl _))))))))))))))))))))))) rfl rfl ?_
        refine mRdK rfl rfl (fun _ _ _ => dAssign (.t (.s (.s (.s .z))))) (.k (.k (.k (.k (.k (.k (.k (.k (.k (.k (.k (.k (.k (.k (.k (.k (.k (.k (.k (.k (.k (.d (Keep.refl _))))))))))))))))))))))) rfl rfl ?_
        refine mNil ?_
        refine xBlock ?_
        exact xRound h8 (o10.1.f_at, zs20, o10.1.f_at) v22 (.c (.s (.s (.s (.s (.s (.s (.s (.s (.s (.s (.s (.s (.s (.s (.s (.s (.s (.s (.s (.s .z)))))))))))))))))))) (.c (.s (.s (.s (.s (.s (.s (.s (.s (.s (.s (.s (.s (.s (.s (.s (.s (.s (.s (.s (.s (.s .z))))))))))))))))))))) (.c .z (.c (.s .z) (.c (.s (.s (.s (.s (.s (.s (.s (.s (.s (.s (.s (.s (.s (.s (.s (.s (.s (.s (.s (.s (.s (.s .z)))))))))))))))))))))) .n))))) (.c (.s .z) (.c (.s (.s (.s (.s .z)))) (.c (.s (.s (.s (.s .z)))) (.c (.s (.s (.s (.s .z)))) .nil))))
      · refine pInner ?_
        refine pDone (congrArg (List.cons _) hD) ?_
        refine lvCall (Y := Unit) (dargs := []) (cap := [.pointer (some ⟨b1, 0, none⟩)]) (u' := .panicking [{ v := .iface 94 (.agg #[.int .i64 o13.2]), recovered := true }]) (LoD := fun _ => [.blk b3 [v0_0, .int .i64 o13.1.f_at] 92, .blk b1 [.int .i64 o13.2] 35, .own x5 97 k_api_Order s4.2.1]) (by simp) fok_43 ?_ (.c .z (.c (.s .z) (.c (.s (.s .z)) .n))) (fun _ => ?_)
        · refine conDR (args := [.pointer (some ⟨b1, 0, none⟩)]) (v := .iface 94 (.agg #[.int .i64 o13.2])) Try.func43 rfl 12 rfl (.c .n) rfl (.inr ⟨rfl, rfl⟩) rfl rfl fun c hD hrn => ?_
          refine cBlock ?_
          refine cSeq ?_
          refine cRegion ?_
          refine lRd (dEqNilIf ifc_20 (.t .z) (.c rfl)) rfl rfl ?_
          refine lNil ?_
          refine xCode ?_
          refine cCondF (.t .z) rfl ?_
          refine cSeq ?_
          refine cRegion ?_
          refine lRd (dAssert nif_94 (.t (.s .z))) rfl rfl ?_
          refine lRd (dExtract (.t .z) rfl) rfl rfl ?_
          refine lRd (dExtract (.t (.s .z)) rfl) rfl rfl ?_
          refine lKeep (.k (.k (.d (.d (.k (.k .n)))))) ?_
          refine lNil ?_
          refine xCode ?_
          refine cCondT (.t (.s .z)) rfl ?_
          refine cSeq ?_
          refine cRegion ?_
          refine lCh (cAlloc (cs := [.int .i64 0]) zer_94 rfl) rfl rfl fun b23 => ?_
          refine lChU (uStoreA (us := [.int .i64 o13.2]) (cs' := [.int .i64 o13.2]) .z siz_94 rfl (by intro u hu; simp only [List.mem_cons, List.not_mem_nil, or_false] at hu; rcases hu with rfl <;> first | rfl | assumption) rfl (by simp) (.t .z) (.t (.s .z))) ?_
          refine lKeep (.k (.d (.d (.d (.k .n))))) ?_
          refine lNil ?_
          refine xCode ?_
          refine cRegion ?_
          refine lRd (dFld fld_94_0 (by decide) (.t .z) rfl) rfl rfl ?_
          refine lRd (dLoad .z agg_35 (.t .z) rfl) rfl rfl ?_
          refine lChU (uStore (.s (.s .z)) siz_35 rfl .z (.t (.s (.s (.s .z)))) (.t .z)) ?_
          refine lKeep .n ?_
          refine lNil ?_
          refine xBlock ?_
          exact xDoneD (rs := []) rfl .n hD () (.c (.s .z) (.c (.s .z) (.c (.s .z) .nil)))
        · refine lvSt (SX.freeze (Upd.s (Upd.s Upd.z))) ?_
          exact lvRet (rs := [.tmp 2, .tmp 3, .cell 4 35]) rfl (.t (.s (.s (.s (.s (.s (.s (.s (.s (.s (.s (.s .z))))))))))) (.t (.s (.s (.s (.s (.s (.s (.s (.s (.s (.s .z)))))))))) (.s (.s (.s (.s (.s (.s (.s (.s (.s (.s .z))))))))) (.s .z) agg_35 .n))) x5 rfl (.c (.s (.s .z)) .nil)
    · refine cExit ?_
      refine xOver ?_
      refine xOverF ?_
      exact xBreakR (s4.1, s4.2.1, s4.2.2) x5 (.c (.s (.s (.s (.s (.s (.s (.s (.s .z)))))))) (.c (.s (.s (.s (.s (.s (.s (.s (.s (.s .z))))))))) (.c (.s (.s (.s (.s (.s (.s (.s (.s (.s (.s .z)))))))))) .n))) (.c .z (.c .z (.c .z (.c .z .nil))))
  · refine xCode ?_
    refine cSeq ?_
    refine cRegion ?_
    refine lRd (dMove (.t (.s (.s .z)))) rfl rfl ?_
    refine lRd (dMove (.t (.s (.s .z)))) rfl rfl ?_
    refine lRdK (dAssign (.t (.s .z))) (.k (.k (.k (.k (.d (Keep.refl _)))))) rfl rfl ?_
    refine lRdK (dAssign (.t (.s .z))) (.k (.k (.k (.k (.d (Keep.refl _)))))) rfl rfl ?_
    refine lChU (uStore (.s .z) siz_35 rfl .z (.t (.s (.s (.s (.s .z))))) (.c rfl)) ?_
    refine lKeep (.k (.k (.d (.d (.k .n))))) ?_
    refine lNil ?_
    refine xCode ?_
    refine cRet ?_
    refine rLeave (congrArg (List.cons _) hD) ?_
    refine lvCall (Y := Unit) (dargs := []) (cap := [.pointer (some ⟨b1, 0, none⟩)]) (u' := .returning) (LoD := fun _ => [.blk b3 [v0_0, .int .i64 s24.2.2] 92, .blk b1 [.int .i64 0] 35, .own x25 97 k_api_Order s24.2.1]) (by simp) fok_43 ?_ (.c .z (.c .z (.c (.s .z) .n))) (fun _ => ?_)
    · refine conDR (args := [.pointer (some ⟨b1, 0, none⟩)]) (v := Value.nilIface) Try.func43 rfl 12 rfl (.c .n) rfl (.inl ⟨rfl, rfl, rfl⟩) rfl rfl fun c hD hrn => ?_
      refine cBlock ?_
      refine cSeq ?_
      refine cRegion ?_
      refine lRd (dEqNilNil ifc_20 (.t .z)) rfl rfl ?_
      refine lNil ?_
      refine xCode ?_
      refine cCondT (.t .z) rfl ?_
      refine cRegion ?_
      refine lRdN (dAssign (.t (.s .z))) rfl ?_
      refine lKeep .n ?_
      refine lNil ?_
      refine xBlock ?_
      exact xDoneD (rs := []) rfl .n hD () (.c .z (.c .z (.c .z .nil)))
    · refine lvSt (SX.freeze (Upd.s (Upd.s Upd.z))) ?_
      exact lvRet (rs := [.tmp 2, .tmp 3, .cell 4 35]) rfl (.t (.s .z) (.t .z (.s (.s (.s .z)) (.s .z) agg_35 .n))) x25 rfl (.c (.s (.s .z)) .nil)

-- greenscreen/command.cut
def command_cut_m (a0 : (List UInt8)) : Option ((List UInt8) × (List UInt8) × Int) := (if (a0.length : Int) < 2 then some ([], [], 34) else (ix a0 0).bind fun y2 => (ix a0 1).bind fun y5 => ((if (ior .i64 (IntKind.wrap .i64 ((y2.toNat : Int) * 2 ^ (min (Int.toNat 8) 64))) (y5.toNat : Int)) = 0 then some (a0.length : Int) else some (ior .i64 (IntKind.wrap .i64 ((y2.toNat : Int) * 2 ^ (min (Int.toNat 8) 64))) (y5.toNat : Int)))).bind fun (s9 : Int) => ((if s9 < 3 then some true else some (decide (s9 > (a0.length : Int))))).bind fun (s12 : Bool) => (if s12 = true then some ([], [], 34) else (sub a0 2 s9).bind fun r15 => (sub a0 s9 (a0.length : Int)).bind fun r17 => some (r15, r17, 0)))
theorem command_cut_c (a0 : (List UInt8)) (v0_0 : Value) : Con Try.prog 45 #[v0_0] [.ro (kSl kB) [v0_0] a0] (command_cut_m a0) (fun (o : (List UInt8) × (List UInt8) × Int) (x : Value × Value) => .tuple #[x.1, x.2, .int .i64 o.2.2]) (fun (o : (List UInt8) × (List UInt8) × Int) (x : Value × Value) => [.ro (kSl kB) [x.1] o.1, .ro (kSl kB) [x.2] o.2.1]) := by
  unfold command_cut_m
  refine con (args := [v0_0]) Try.func45 rfl 37 rfl (.c .n) rfl fun c hD hrn => ?_
  refine cSeq ?_
  refine cRegion ?_
  refine lRd (dAssign (.c rfl)) rfl rfl ?_
  refine lRd (dAssign (.c rfl)) rfl rfl ?_
  refine lRd (dAssign (.c rfl)) rfl rfl ?_
  refine lNil ?_
  refine xCode ?_
  refine cSeq ?_
  refine cSeq ?_
  refine cRegion ?_
  refine lRd (dMove (.t (.s (.s (.s .z))))) rfl rfl ?_
  refine lRd (dLen (at_ := #[34]) (slRo .z) rfl und_34 (.t .z)) rfl rfl ?_
  refine lRd (dLt (.t .z) (.c rfl)) rfl rfl ?_
  refine lKeep (.k (.d (.d (.k (.k (.k (.k .n))))))) ?_
  refine lNil ?_
  refine xCode ?_
  refine cCond (.t .z) (fun h1 => ?_) (fun h1 => ?_)
  · refine cSeq ?_
    refine cRegion ?_
    refine lRdK (dAssign (.c rfl)) (.k (.k (.k (.d (Keep.refl _))))) rfl rfl ?_
    refine lRdK (dAssign (.c rfl)) (.k (.k (.k (.d (Keep.refl _))))) rfl rfl ?_
    refine lRdK (dAssign (.c rfl)) (.k (.k (.k (.d (Keep.refl _))))) rfl rfl ?_
    refine lKeep (.k (.k (.k (.d (.k .n))))) ?_
    refine lNil ?_
    refine xCode ?_
    refine cRet ?_
    refine rLeave hD ?_
    refine lvSt (roNil kB) ?_
    refine lvSt (roNil kB) ?_
    exact lvRet (rs := [.tmp 2, .tmp 3, .tmp 4]) rfl (.t (.s (.s .z)) (.t (.s .z) (.t .z .n))) (.slice none 0 0, .slice none 0 0) rfl (.c (.s .z) (.c .z .nil))
  · refine cSkip ?_
    refine xCode ?_
    refine cSeq ?_
    refine cRegionM [] [(0, .early), (1, .early), (2, .early), (3, .early), (4, .early), (5, .early), (6, .early), (7, .early), (8, .early), (9, .early), (10, .early)] mixed (by kernel_rfl) (.c .z .nil) (.c .n) ?_
    refine mRd rfl rfl (fun _ _ _ => dMove (.t (.s (.s (.s (.s .z)))))) rfl rfl ?_
    refine mIx fun y2 h3 h4 => ?_
    refine mRd rfl rfl (fun _ _ _ => dIxAddr (slRo .z) und_34 siz_5 (.t .z) (.c rfl) h3 h4) rfl rfl ?_
    refine mRd rfl rfl (fun _ _ _ => dLoadE (slRo .z) agg_5 (.t .z) h4 (fun _ _ h => by cases h; rfl)) rfl rfl ?_
    refine mRd rfl rfl (fun _ _ _ => dConvB som_5 und_3 rfl (.t .z)) rfl rfl ?_
    refine mRd rfl rfl (fun _ _ _ => dShl (.t .z) (.c rfl) (by decide)) rfl rfl ?_
    refine mRd rfl rfl (fun _ _ _ => dMove (.t (.s (.s (.s (.s (.s (.s (.s (.s (.s .z))))))))))) rfl rfl ?_
    refine mIx fun y5 h6 h7 => ?_
    refine mRd rfl rfl (fun _ _ _ => dIxAddr (slRo .z) und_34 siz_5 (.t .z) (.c rfl) h6 h7) rfl rfl ?_
    refine mRd rfl rfl (fun _ _ _ => dLoadE (slRo .z) agg_5 (.t .z) h7 (fun _ _ h => by cases h; rfl)) rfl rfl ?_
    refine mRd rfl rfl (fun _ _ _ => dConvB som_5 und_3 rfl (.t .z)) rfl rfl ?_
    refine mRd rfl rfl (fun _ _ _ => dOr (.t (.s (.s (.s (.s .z))))) (.t .z)) rfl rfl ?_
    refine mRd rfl rfl (fun _ _ _ => dAssign (.t .z)) rfl rfl ?_
    refine mKeep (.k (.d (.d (.d (.d (.d (.d (.d (.d (.d (.d (.d (.k (.k (.k (.k .n)))))))))))))))) ?_
    refine mNil ?_
    refine xCode ?_
    refine cSeq ?_
    refine cSeq ?_
    refine cRegion ?_
    refine lRd (dMove (.t .z)) rfl rfl ?_
    refine lRd (dEq (.t .z) (.c rfl)) rfl rfl ?_
    refine lKeep (.k (.d (.k (.k (.k (.k (.k .n))))))) ?_
    refine lNil ?_
    refine xCode ?_
    refine cJoin (S := Int) (X := Unit) (fun (s : Int) (x : Unit) => [(5, .int .i64 s), (4, .int .i64 0), (3, .slice none 0 0), (2, .slice none 0 0), (0, v0_0)]) (fun (s : Int) (x : Unit) => [.ro (kSl kB) [v0_0] a0]) ?_ (fun s9 x10 => ?_)
    · refine cCond (.t .z) (fun h8 => ?_) (fun h8 => ?_)
      · refine cRegion ?_
        refine lRd (dMove (.t (.s (.s (.s (.s (.s .z))))))) rfl rfl ?_
        refine lRd (dLen (at_ := #[34]) (slRo .z) rfl und_34 (.t .z)) rfl rfl ?_
        refine lRdK (dAssign (.t .z)) (.k (.k (.k (.d (Keep.refl _))))) rfl rfl ?_
        refine lKeep (.k (.d (.d (.d (.k (.k (.k (.k .n)))))))) ?_
        refine lNil ?_
        exact xJoin (a0.length : Int) () (.c .z (.c (.s .z) (.c (.s (.s .z)) (.c (.s (.s (.s .z))) (.c (.s (.s (.s (.s .z)))) .n))))) (.c .z .nil)
      · refine cSkip ?_
        exact xJoin (ior .i64 (IntKind.wrap .i64 ((y2.toNat : Int) * 2 ^ (min (Int.toNat 8) 64))) (y5.toNat : Int)) () (.c (.s .z) (.c (.s (.s .z)) (.c (.s (.s (.s .z))) (.c (.s (.s (.s (.s .z)))) (.c (.s (.s (.s (.s (.s .z))))) .n))))) (.c .z .nil)
    · refine xCode ?_
      refine cSeq ?_
      refine cSeq ?_
      refine cJoin (S := Bool) (X := Unit) (fun (s : Bool) (x : Unit) => [(30, .bool s), (5, .int .i64 s9), (4, .int .i64 0), (3, .slice none 0 0), (2, .slice none 0 0), (0, v0_0)]) (fun (s : Bool) (x : Unit) => [.ro (kSl kB) [v0_0] a0]) ?_ (fun s12 x13 => ?_)
      · refine cRegion ?_
        refine lRd (dMove (.t .z)) rfl rfl ?_
        refine lRd (dLt (.t .z) (.c rfl)) rfl rfl ?_
        refine lRd (dMove (.t .z)) rfl rfl ?_
        refine lCase (fun h11 => ?_) (fun h11 => ?_)
        · refine lPass rfl .z (nbF (decide_eq_true h11)) rfl ?_
          refine lPass rfl .z (nbF (decide_eq_true h11)) rfl ?_
          refine lPass rfl .z (nbF (decide_eq_true h11)) rfl ?_
          refine lPass rfl .z (nbF (decide_eq_true h11)) rfl ?_
          refine lRd (dPickT (.t .z) (decide_eq_true h11) (.c rfl)) rfl rfl ?_
          refine lKeep (.k (.d (.d (.d (.k (.k (.k (.k (.k .n))))))))) ?_
          refine lNil ?_
          exact xJoin true () (.c .z (.c (.s .z) (.c (.s (.s .z)) (.c (.s (.s (.s .z))) (.c (.s (.s (.s (.s .z)))) (.c (.s (.s (.s (.s (.s .z))))) .n)))))) (.c .z .nil)
        · refine lRdG rfl .z (decide_eq_false h11) (dMove (.t (.s (.s (.s .z))))) rfl rfl ?_
          refine lRdG rfl (.s .z) (decide_eq_false h11) (dMove (.t (.s (.s (.s (.s (.s (.s (.s (.s .z)))))))))) rfl rfl ?_
          refine lRdG rfl (.s (.s .z)) (decide_eq_false h11) (dLen (at_ := #[34]) (slRo .z) rfl und_34 (.t .z)) rfl rfl ?_
          refine lRdG rfl (.s (.s (.s .z))) (decide_eq_false h11) (dGt (.t (.s (.s .z))) (.t .z)) rfl rfl ?_
          refine lRd (dPickF (.t (.s (.s (.s (.s .z))))) (decide_eq_false h11) (.t .z)) rfl rfl ?_
          refine lKeep (.k (.d (.d (.d (.d (.d (.d (.d (.k (.k (.k (.k (.k .n))))))))))))) ?_
          refine lNil ?_
          exact xJoin (decide (s9 > (a0.length : Int))) () (.c .z (.c (.s .z) (.c (.s (.s .z)) (.c (.s (.s (.s .z))) (.c (.s (.s (.s (.s .z)))) (.c (.s (.s (.s (.s (.s .z))))) .n)))))) (.c .z .nil)
      · refine xCode ?_
        refine cCondB (.t .z) (fun h14 => ?_) (fun h14 => ?_)
        · refine cSeq ?_
          refine cRegion ?_
          refine lRdK (dAssign (.c rfl)) (.k (.k (.k (.k (.d (Keep.refl _)))))) rfl rfl ?_
          refine lRdK (dAssign (.c rfl)) (.k (.k (.k (.k (.d (Keep.refl _)))))) rfl rfl ?_
          refine lRdK (dAssign (.c rfl)) (.k (.k (.k (.k (.d (Keep.refl _)))))) rfl rfl ?_
          refine lKeep (.k (.k (.k (.d (.k (.k .n)))))) ?_
          refine lNil ?_
          refine xCode ?_
          refine cRet ?_
          refine rLeave hD ?_
          refine lvSt (roNil kB) ?_
          refine lvSt (roNil kB) ?_
          exact lvRet (rs := [.tmp 2, .tmp 3, .tmp 4]) rfl (.t (.s (.s .z)) (.t (.s .z) (.t .z .n))) (.slice none 0 0, .slice none 0 0) rfl (.c (.s .z) (.c .z .nil))
        · refine cSkip ?_
          refine xCode ?_
          refine cSeq ?_
          refine cRegionM [] [(0, .early), (1, .early), (2, .early), (3, .early), (4, .early), (5, .early), (6, .early), (7, .early), (8, .early)] mixed (by kernel_rfl) (.c .z .nil) (.c .n) ?_
          refine mRd rfl rfl (fun _ _ _ => dMove (.t (.s (.s (.s (.s (.s .z))))))) rfl rfl ?_
          refine mRd rfl rfl (fun _ _ _ => dMove (.t (.s (.s .z)))) rfl rfl ?_
          refine mBind fun r15 h16 => ?_
          refine mSt' (roSub .z h16) ?_
          refine mSt' (fun w => Sub.st (.c (.s .z) (.c .z .nil))) ?_
          refine mRd rfl rfl (fun _ _ _ => dSlice (ys := r15) (slRo .z) und_34 siz_5 (.t (.s .z)) ⟨_, (.c rfl)⟩ ⟨_, (.t .z)⟩ h16) rfl rfl ?_
          refine mRd rfl rfl (fun _ _ _ => dMove (.t (.s (.s (.s (.s (.s (.s (.s (.s .z)))))))))) rfl rfl ?_
          refine mRd rfl rfl (fun _ _ _ => dMove (.t (.s (.s (.s (.s (.s .z))))))) rfl rfl ?_
          refine mBind fun r17 h18 => ?_
          refine mSt' (roSub .z h18) ?_
          refine mSt' (fun w => Sub.st (.c (.s .z) (.c (.s .z) (.c .z .nil)))) ?_
          refine mRd rfl rfl (fun _ _ _ => dSlice (ys := r17) (slRo .z) und_34 siz_5 (.t (.s .z)) ⟨_, (.t .z)⟩ rfl h18) rfl rfl ?_
          refine mRdK rfl rfl (fun _ _ _ => dAssign (.t (.s (.s (.s .z))))) (.k (.k (.k (.k (.k (.k (.k (.k (.k (.k (.d (Keep.refl _)))))))))))) rfl rfl ?_
          refine mRdK rfl rfl (fun _ _ _ => dAssign (.t (.s .z))) (.k (.k (.k (.k (.k (.k (.k (.k (.k (.k (.d (Keep.refl _)))))))))))) rfl rfl ?_
          refine mRdK rfl rfl (fun _ _ _ => dAssign (.c rfl)) (.k (.k (.k (.k (.k (.k (.k (.k (.k (.k (.d (Keep.refl _)))))))))))) rfl rfl ?_
          refine mKeep (.k (.k (.k .n))) ?_
          refine mNil ?_
          refine xCode ?_
          refine cRet ?_
          refine rLeave hD ?_
          exact lvRet (rs := [.tmp 2, .tmp 3, .tmp 4]) rfl (.t (.s (.s .z)) (.t (.s .z) (.t .z .n))) (slc v0_0 (kB).n (Int.toNat 2) (Int.toNat s9), slc v0_0 (kB).n (Int.toNat s9) (Int.toNat (a0.length : Int))) rfl (.c (.s .z) (.c (.s .z) .nil))

-- greenscreen/command.read
def command_read_m (a0 : (List UInt8)) : Option (command_Field × Bool) := (if (a0.length : Int) ≠ 2 then some ((⟨0, 0, (⟨0, 0, [], 0, []⟩ : command_Command)⟩ : command_Field), false) else ((ix a0 1).bind fun y3 => (if y3 = (242 : UInt8) then some true else (ix a0 1).bind fun y7 => (if y7 = (246 : UInt8) then some true else (ix a0 1).bind fun y11 => some (decide (y11 = (110 : UInt8)))))).bind fun (s14 : Bool) => (ix a0 1).bind fun y16 => (ix a0 0).bind fun y19 => (if y19 = (255 : UInt8) then (ix a0 1).bind fun y23 => (if y23 = (2 : UInt8) then some ((⟨(1 : UInt8), y16, (⟨0, 0, [], 0, []⟩ : command_Command)⟩ : command_Field), true) else (ix a0 0).bind fun y27 => (if y27 = (0 : UInt8) then some ((⟨(1 : UInt8), y16, (⟨0, 0, [], 0, []⟩ : command_Command)⟩ : command_Field), s14) else some ((⟨(1 : UInt8), y16, (⟨0, 0, [], 0, []⟩ : command_Command)⟩ : command_Field), false))) else (ix a0 0).bind fun y31 => (if y31 = (0 : UInt8) then some ((⟨(1 : UInt8), y16, (⟨0, 0, [], 0, []⟩ : command_Command)⟩ : command_Field), s14) else some ((⟨(1 : UInt8), y16, (⟨0, 0, [], 0, []⟩ : command_Command)⟩ : command_Field), false))))
theorem command_read_c (a0 : (List UInt8)) (v0_0 : Value) : Con Try.prog 67 #[v0_0] [.ro (kSl kB) [v0_0] a0] (command_read_m a0) (fun (o : command_Field × Bool) (x : Value × Value) => .tuple #[.agg #[vB o.1.f_ID, vB o.1.f_Op, vB o.1.f_Inner.f_Kind, vB o.1.f_Inner.f_WCC, x.1, .int .i64 o.1.f_Inner.f_Err, x.2], .bool o.2]) (fun (o : command_Field × Bool) (x : Value × Value) => [.ro (kSl k_api_Order) [x.1] o.1.f_Inner.f_Orders, .ro (kSl k_command_Field) [x.2] o.1.f_Inner.f_Fields]) := by
  unfold command_read_m
  refine con (args := [v0_0]) Try.func67 rfl 48 rfl (.c .n) rfl fun c hD hrn => ?_
  refine cSeq ?_
  refine cRegion ?_
  refine lCh (cAlloc (cs := [vB 0, vB 0, vB 0, vB 0, .slice none 0 0, .int .i64 0, .slice none 0 0]) zer_102 rfl) rfl rfl fun b1 => ?_
  refine lRd (dAssign (.c rfl)) rfl rfl ?_
  refine lNil ?_
  refine xCode ?_
  refine cSeq ?_
  refine cSeq ?_
  refine cRegion ?_
  refine lRd (dMove (.t (.s (.s .z)))) rfl rfl ?_
  refine lRd (dLen (at_ := #[34]) (slRo (.s .z)) rfl und_34 (.t .z)) rfl rfl ?_
  refine lRd (dNe (.t .z) (.c rfl)) rfl rfl ?_
  refine lKeep (.k (.d (.d (.k (.k (.k .n)))))) ?_
  refine lNil ?_
  refine xCode ?_
  refine cCond (.t .z) (fun h2 => ?_) (fun h2 => ?_)
  · refine cSeq ?_
    refine cRegion ?_
    refine lRd (dBuild (cs := [vB 0, vB 0, vB 0, vB 0, .slice none 0 0, .int .i64 0, .slice none 0 0]) zer_102 rfl plc_102 .n rfl) rfl rfl ?_
    refine lChU (uStoreA (us := [vB 0, vB 0, vB 0, vB 0, .slice none 0 0, .int .i64 0, .slice none 0 0]) (cs' := [vB 0, vB 0, vB 0, vB 0, .slice none 0 0, .int .i64 0, .slice none 0 0]) .z siz_102 rfl (by intro u hu; simp only [List.mem_cons, List.not_mem_nil, or_false] at hu; rcases hu with rfl | rfl | rfl | rfl | rfl | rfl | rfl <;> first | rfl | assumption) rfl (by simp) (.t (.s (.s (.s .z)))) (.t .z)) ?_
    refine lRdK (dAssign (.c rfl)) (.k (.k (.d (Keep.refl _)))) rfl rfl ?_
    refine lKeep (.k (.d (.d (.k (.k .n))))) ?_
    refine lNil ?_
    refine xCode ?_
    refine cRet ?_
    refine rLeave hD ?_
    refine lvSt (roNil k_api_Order) ?_
    refine lvSt (roNil k_command_Field) ?_
    exact lvRet (rs := [.cell 2 102, .tmp 3]) rfl (.a (.s .z) (.s (.s .z)) agg_102 siz_102 (.t .z .n)) (.slice none 0 0, .slice none 0 0) rfl (.c (.s .z) (.c .z .nil))
  · refine cSkip ?_
    refine xCode ?_
    refine cSeq ?_
    refine cJoin (S := Bool) (X := Unit) (fun (s : Bool) (x : Unit) => [(4, .bool s), (3, .bool false), (2, .pointer (some ⟨b1, 0, none⟩)), (0, v0_0)]) (fun (s : Bool) (x : Unit) => [.blk b1 [vB 0, vB 0, vB 0, vB 0, .slice none 0 0, .int .i64 0, .slice none 0 0] 102, .ro (kSl kB) [v0_0] a0]) ?_ (fun s14 x15 => ?_)
    · refine cRegion ?_
      refine lRd (dMove (.t (.s (.s (.s .z))))) rfl rfl ?_
      refine lIx fun y3 h4 h5 => ?_
      refine lRd (dIxAddr (slRo (.s .z)) und_34 siz_5 (.t .z) (.c rfl) h4 h5) rfl rfl ?_
      refine lRd (dLoadE (slRo (.s .z)) agg_5 (.t .z) h5 (fun _ _ h => by cases h; rfl)) rfl rfl ?_
      refine lRd (dEqB (.t .z) (.c (v' := vB 242) rfl)) rfl rfl ?_
      refine lRd (dMove (.t .z)) rfl rfl ?_
      refine lCase (fun h6 => ?_) (fun h6 => ?_)
      · refine lPass rfl .z (nbF (decide_eq_true h6)) rfl ?_
        refine lPass rfl .z (nbF (decide_eq_true h6)) rfl ?_
        refine lPass rfl .z (nbF (decide_eq_true h6)) rfl ?_
        refine lPass rfl .z (nbF (decide_eq_true h6)) rfl ?_
        refine lRd (dPickT (.t .z) (decide_eq_true h6) (.c rfl)) rfl rfl ?_
        refine lRd (dMove (.t .z)) rfl rfl ?_
        refine lPass rfl .z (nbF rfl) rfl ?_
        refine lPass rfl .z (nbF rfl) rfl ?_
        refine lPass rfl .z (nbF rfl) rfl ?_
        refine lPass rfl .z (nbF rfl) rfl ?_
        refine lRd (dPickT (.t .z) rfl (.c rfl)) rfl rfl ?_
        refine lRd (dAssign (.t .z)) rfl rfl ?_
        refine lKeep (.k (.d (.d (.d (.d (.d (.d (.d (.d (.d (.k (.k (.k .n))))))))))))) ?_
        refine lNil ?_
        exact xJoin true () (.c .z (.c (.s .z) (.c (.s (.s .z)) (.c (.s (.s (.s .z))) .n)))) (.c .z (.c .z .nil))
      · refine lRdG rfl .z (decide_eq_false h6) (dMove (.t (.s (.s (.s (.s (.s (.s (.s (.s .z)))))))))) rfl rfl ?_
        refine lIx fun y7 h8 h9 => ?_
        refine lRdG rfl (.s .z) (decide_eq_false h6) (dIxAddr (slRo (.s .z)) und_34 siz_5 (.t .z) (.c rfl) h8 h9) rfl rfl ?_
        refine lRdG rfl (.s (.s .z)) (decide_eq_false h6) (dLoadE (slRo (.s .z)) agg_5 (.t .z) h9 (fun _ _ h => by cases h; rfl)) rfl rfl ?_
        refine lRdG rfl (.s (.s (.s .z))) (decide_eq_false h6) (dEqB (.t .z) (.c (v' := vB 246) rfl)) rfl rfl ?_
        refine lRd (dPickF (.t (.s (.s (.s (.s .z))))) (decide_eq_false h6) (.t .z)) rfl rfl ?_
        refine lRd (dMove (.t .z)) rfl rfl ?_
        refine lCase (fun h10 => ?_) (fun h10 => ?_)
        · refine lPass rfl .z (nbF (decide_eq_true h10)) rfl ?_
          refine lPass rfl .z (nbF (decide_eq_true h10)) rfl ?_
          refine lPass rfl .z (nbF (decide_eq_true h10)) rfl ?_
          refine lPass rfl .z (nbF (decide_eq_true h10)) rfl ?_
          refine lRd (dPickT (.t .z) (decide_eq_true h10) (.c rfl)) rfl rfl ?_
          refine lRd (dAssign (.t .z)) rfl rfl ?_
          refine lKeep (.k (.d (.d (.d (.d (.d (.d (.d (.d (.d (.d (.d (.d (.d (.k (.k (.k .n))))))))))))))))) ?_
          refine lNil ?_
          exact xJoin true () (.c .z (.c (.s .z) (.c (.s (.s .z)) (.c (.s (.s (.s .z))) .n)))) (.c .z (.c .z .nil))
        · refine lRdG rfl .z (decide_eq_false h10) (dMove (.t (.s (.s (.s (.s (.s (.s (.s (.s (.s (.s (.s (.s (.s (.s .z)))))))))))))))) rfl rfl ?_
          refine lIx fun y11 h12 h13 => ?_
          refine lRdG rfl (.s .z) (decide_eq_false h10) (dIxAddr (slRo (.s .z)) und_34 siz_5 (.t .z) (.c rfl) h12 h13) rfl rfl ?_
          refine lRdG rfl (.s (.s .z)) (decide_eq_false h10) (dLoadE (slRo (.s .z)) agg_5 (.t .z) h13 (fun _ _ h => by cases h; rfl)) rfl rfl ?_
          refine lRdG rfl (.s (.s (.s .z))) (decide_eq_false h10) (dEqB (.t .z) (.c (v' := vB 110) rfl)) rfl rfl ?_
          refine lRd (dPickF (.t (.s (.s (.s (.s .z))))) (decide_eq_false h10) (.t .z)) rfl rfl ?_
          refine lRd (dAssign (.t .z)) rfl rfl ?_
          refine lKeep (.k (.d (.d (.d (.d (.d (.d (.d (.d (.d (.d (.d (.d (.d (.d (.d (.d (.d (.k (.k (.k .n))))))))))))))))))))) ?_
          refine lNil ?_
          exact xJoin (decide (y11 = (110 : UInt8))) () (.c .z (.c (.s .z) (.c (.s (.s .z)) (.c (.s (.s (.s .z))) .n)))) (.c .z (.c .z .nil))
    · refine xCode ?_
      refine cSeq ?_
      refine cRegionM [23] [(0, .early), (1, .early), (2, .early), (3, .early), (4, .early), (5, .early), (6, .early), (7, .early), (8, .early), (9, .early), (10, .early), (11, .early), (12, .early), (13, .early), (14, .early), (15, .early), (16, .early), (17, .early), (18, .early), (19, .early), (20, .quiet), (21, .quiet), (22, .quiet), (23, .only), (24, .quiet)] mixed (by kernel_rfl) (.c (.s .z) (.c .z .nil)) (.c .n) ?_
      refine mRd rfl rfl (fun _ _ _ => dMove (.t (.s (.s (.s .z))))) rfl rfl ?_
      refine mIx fun y16 h17 h18 => ?_
      refine mRd rfl rfl (fun _ _ _ => dIxAddr (slRo .z) und_34 siz_5 (.t .z) (.c rfl) h17 h18) rfl rfl ?_
      refine mRd rfl rfl (fun _ _ _ => dLoadE (slRo .z) agg_5 (.t .z) h18 (fun _ _ h => by cases h; rfl)) rfl rfl ?_
      refine mRd rfl rfl (fun _ _ _ => dBuild (cs := [vB (1 : UInt8), vB y16, vB 0, vB 0, .slice none 0 0, .int .i64 0, .slice none 0 0]) zer_102 rfl plc_102 (.c (.c (v' := vB 1) rfl) (.c (.t .z) .n)) rfl) rfl rfl ?_
      refine mRd rfl rfl (fun _ _ _ => dMove (.t (.s (.s (.s (.s (.s (.s (.s .z))))))))) rfl rfl ?_
      refine mIx fun y19 h20 h21 => ?_
      refine mRd rfl rfl (fun _ _ _ => dIxAddr (slRo .z) und_34 siz_5 (.t .z) (.c rfl) h20 h21) rfl rfl ?_
      refine mRd rfl rfl (fun _ _ _ => dLoadE (slRo .z) agg_5 (.t .z) h21 (fun _ _ h => by cases h; rfl)) rfl rfl ?_
      refine mRd rfl rfl (fun _ _ _ => dEqB (.t .z) (.c (v' := vB 255) rfl)) rfl rfl ?_
      refine mRd rfl rfl (fun _ _ _ => dMove (.t .z)) rfl rfl ?_
      refine mCase (fun h22 => ?_) (fun h22 => ?_)
      · refine mRdG rfl rfl rfl .z (decide_eq_true h22) (fun _ _ _ => dMove (.t (.s (.s (.s (.s (.s (.s (.s (.s (.s (.s (.s (.s .z)))))))))))))) rfl rfl ?_
        refine mIx fun y23 h24 h25 => ?_
        refine mRdG rfl rfl rfl (.s .z) (decide_eq_true h22) (fun _ _ _ => dIxAddr (slRo .z) und_34 siz_5 (.t .z) (.c rfl) h24 h25) rfl rfl ?_
        refine mRdG rfl rfl rfl (.s (.s .z)) (decide_eq_true h22) (fun _ _ _ => dLoadE (slRo .z) agg_5 (.t .z) h25 (fun _ _ h => by cases h; rfl)) rfl rfl ?_
        refine mRdG rfl rfl rfl (.s (.s (.s .z))) (decide_eq_true h22) (fun _ _ _ => dEqB (.t .z) (.c (v' := vB 2) rfl)) rfl rfl ?_
        refine mRd rfl rfl (fun _ _ _ => dPickT (.t (.s (.s (.s (.s .z))))) (decide_eq_true h22) (.t .z)) rfl rfl ?_
        refine mRd rfl rfl (fun _ _ _ => dMove (.t .z)) rfl rfl ?_
        refine mCase (fun h26 => ?_) (fun h26 => ?_)
        · refine mPass rfl rfl rfl .z (nbF (decide_eq_true h26)) rfl ?_
          refine mPass rfl rfl rfl .z (nbF (decide_eq_true h26)) rfl ?_
          refine mPass rfl rfl rfl .z (nbF (decide_eq_true h26)) rfl ?_
          refine mPass rfl rfl rfl .z (nbF (decide_eq_true h26)) rfl ?_
          refine mPassU rfl rfl rfl .z (nbF (decide_eq_true h26)) rfl rfl ?_
          refine mPass rfl rfl rfl .z nbU rfl ?_
          refine mPass rfl rfl rfl (.s .z) (nbF (decide_eq_true h26)) rfl ?_
          refine mRd rfl rfl (fun _ _ _ => dPickT (.t (.s .z)) (decide_eq_true h26) (.c rfl)) rfl rfl ?_
          refine mChU rfl rfl (uStoreA (us := [vB (1 : UInt8), vB y16, vB 0, vB 0, .slice none 0 0, .int .i64 0, .slice none 0 0]) (cs' := [vB (1 : UInt8), vB y16, vB 0, vB 0, .slice none 0 0, .int .i64 0, .slice none 0 0]) (.s .z) siz_102 rfl (by intro u hu; simp only [List.mem_cons, List.not_mem_nil, or_false] at hu; rcases hu with rfl | rfl | rfl | rfl | rfl | rfl | rfl <;> first | rfl | assumption) rfl (by simp) (.t (.s (.s (.s (.s (.s (.s (.s (.s (.s (.s (.s (.s (.s (.s (.s (.s (.s (.s (.s .z)))))))))))))))))))) (.t (.s (.s (.s (.s (.s (.s (.s (.s (.s (.s (.s (.s (.s .z))))))))))))))) (.c .z (.c .z .nil)) (.c .n) ?_
          refine mRdK rfl rfl (fun _ _ _ => dAssign (.t .z)) (.k (.k (.k (.k (.k (.k (.k (.k (.k (.k (.k (.k (.k (.k (.k (.k (.k (.k (.d (Keep.refl _)))))))))))))))))))) rfl rfl ?_
          refine mKeep (.k (.d (.d (.d (.d (.d (.d (.d (.d (.d (.d (.d (.d (.d (.d (.d (.d (.d (.d (.k .n)))))))))))))))))))) ?_
          refine mNil ?_
          refine xCode ?_
          refine cRet ?_
          refine rLeave hD ?_
          refine lvSt (roNil k_api_Order) ?_
          refine lvSt (roNil k_command_Field) ?_
          exact lvRet (rs := [.cell 2 102, .tmp 3]) rfl (.a (.s .z) (.s (.s (.s .z))) agg_102 siz_102 (.t .z .n)) (.slice none 0 0, .slice none 0 0) rfl (.c (.s .z) (.c .z .nil))
        · refine mRdG rfl rfl rfl .z (decide_eq_false h26) (fun _ _ _ => dMove (.t (.s (.s (.s (.s (.s (.s (.s (.s (.s (.s (.s (.s (.s (.s (.s (.s (.s (.s .z)))))))))))))))))))) rfl rfl ?_
          refine mIx fun y27 h28 h29 => ?_
          refine mRdG rfl rfl rfl (.s .z) (decide_eq_false h26) (fun _ _ _ => dIxAddr (slRo .z) und_34 siz_5 (.t .z) (.c rfl) h28 h29) rfl rfl ?_
          refine mRdG rfl rfl rfl (.s (.s .z)) (decide_eq_false h26) (fun _ _ _ => dLoadE (slRo .z) agg_5 (.t .z) h29 (fun _ _ h => by cases h; rfl)) rfl rfl ?_
          refine mRdG rfl rfl rfl (.s (.s (.s .z))) (decide_eq_false h26) (fun _ _ _ => dEqB (.t .z) (.c (v' := vB 0) rfl)) rfl rfl ?_
          refine mRdG rfl rfl rfl (.s (.s (.s (.s .z)))) (decide_eq_false h26) (fun _ _ _ => dMove (.t .z)) rfl rfl ?_
          refine mCase (fun h30 => ?_) (fun h30 => ?_)
          · refine mRdG rfl rfl rfl .z (decide_eq_true h30) (fun _ _ _ => dMove (.t (.s (.s (.s (.s (.s (.s (.s (.s (.s (.s (.s (.s (.s (.s (.s (.s (.s (.s (.s (.s .z)))))))))))))))))))))) rfl rfl ?_
            refine mRdG rfl rfl rfl (.s (.s (.s (.s (.s (.s .z)))))) (decide_eq_false h26) (fun _ _ _ => dPickT (.t (.s .z)) (decide_eq_true h30) (.t .z)) rfl rfl ?_
            refine mRd rfl rfl (fun _ _ _ => dPickF (.t (.s (.s (.s (.s (.s (.s (.s .z)))))))) (decide_eq_false h26) (.t .z)) rfl rfl ?_
            refine mChU rfl rfl (uStoreA (us := [vB (1 : UInt8), vB y16, vB 0, vB 0, .slice none 0 0, .int .i64 0, .slice none 0 0]) (cs' := [vB (1 : UInt8), vB y16, vB 0, vB 0, .slice none 0 0, .int .i64 0, .slice none 0 0]) (.s .z) siz_102 rfl (by intro u hu; simp only [List.mem_cons, List.not_mem_nil, or_false] at hu; rcases hu with rfl | rfl | rfl | rfl | rfl | rfl | rfl <;> first | rfl | assumption) rfl (by simp) (.t (.s (.s (.s (.s (.s (.s (.s (.s (.s (.s (.s (.s (.s (.s (.s (.s (.s (.s (.s (.s (.s (.s (.s (.s (.s .z)))))))))))))))))))))))))) (.t (.s (.s (.s (.s (.s (.s (.s (.s (.s (.s (.s (.s (.s (.s (.s (.s (.s (.s (.s .z))))))))))))))))))))) (.c .z (.c .z .nil)) (.c .n) ?_
            refine mRdK rfl rfl (fun _ _ _ => dAssign (.t .z)) (.k (.k (.k (.k (.k (.k (.k (.k (.k (.k (.k (.k (.k (.k (.k (.k (.k (.k (.k (.k (.k (.k (.k (.k (.d (Keep.refl _)))))))))))))))))))))))))) rfl rfl ?_
            refine mKeep (.k (.d (.d (.d (.d (.d (.d (.d (.d (.d (.d (.d (.d (.d (.d (.d (.d (.d (.d (.d (.d (.d (.d (.d (.d (.k .n)))))))))))))))))))))))))) ?_
            refine mNil ?_
            refine xCode ?_
            refine cRet ?_
            refine rLeave hD ?_
            refine lvSt (roNil k_api_Order) ?_
            refine lvSt (roNil k_command_Field) ?_
            exact lvRet (rs := [.cell 2 102, .tmp 3]) rfl (.a (.s .z) (.s (.s (.s .z))) agg_102 siz_102 (.t .z .n)) (.slice none 0 0, .slice none 0 0) rfl (.c (.s .z) (.c .z .nil))
          · refine mPass rfl rfl rfl .z (nbT (decide_eq_false h30)) rfl ?_
            refine mRdG rfl rfl rfl (.s (.s (.s (.s (.s .z))))) (decide_eq_false h26) (fun _ _ _ => dPickF (.t .z) (decide_eq_false h30) (.c rfl)) rfl rfl ?_
            refine mRd rfl rfl (fun _ _ _ => dPickF (.t (.s (.s (.s (.s (.s (.s .z))))))) (decide_eq_false h26) (.t .z)) rfl rfl ?_
            refine mChU rfl rfl (uStoreA (us := [vB (1 : UInt8), vB y16, vB 0, vB 0, .slice none 0 0, .int .i64 0, .slice none 0 0]) (cs' := [vB (1 : UInt8), vB y16, vB 0, vB 0, .slice none 0 0, .int .i64 0, .slice none 0 0]) (.s .z) siz_102 rfl (by intro u hu; simp only [List.mem_cons, List.not_mem_nil, or_false] at hu; rcases hu with rfl | rfl | rfl | rfl | rfl | rfl | rfl <;> first | rfl | assumption) rfl (by simp) (.t (.s (.s (.s (.s (.s (.s (.s (.s (.s (.s (.s (.s (.s (.s (.s (.s (.s (.s (.s (.s (.s (.s (.s (.s .z))))))))))))))))))))))))) (.t (.s (.s (.s (.s (.s (.s (.s (.s (.s (.s (.s (.s (.s (.s (.s (.s (.s (.s .z)))))))))))))))))))) (.c .z (.c .z .nil)) (.c .n) ?_
            refine mRdK rfl rfl (fun _ _ _ => dAssign (.t .z)) (.k (.k (.k (.k (.k (.k (.k (.k (.k (.k (.k (.k (.k (.k (.k (.k (.k (.k (.k (.k (.k (.k (.k (.d (Keep.refl _))))))))))))))))))))))))) rfl rfl ?_
            refine mKeep (.k (.d (.d (.d (.d (.d (.d (.d (.d (.d (.d (.d (.d (.d (.d (.d (.d (.d (.d (.d (.d (.d (.d (.d (.k .n))))))))))))))))))))))))) ?_
            refine mNil ?_
            refine xCode ?_
            refine cRet ?_
            refine rLeave hD ?_
            refine lvSt (roNil k_api_Order) ?_
            refine lvSt (roNil k_command_Field) ?_
            exact lvRet (rs := [.cell 2 102, .tmp 3]) rfl (.a (.s .z) (.s (.s (.s .z))) agg_102 siz_102 (.t .z .n)) (.slice none 0 0, .slice none 0 0) rfl (.c (.s .z) (.c .z .nil))
      · refine mPass rfl rfl rfl .z (nbT (decide_eq_false h22)) rfl ?_
        refine mPass rfl rfl rfl .z (nbT (decide_eq_false h22)) rfl ?_
        refine mPass rfl rfl rfl .z (nbT (decide_eq_false h22)) rfl ?_
        refine mPass rfl rfl rfl .z (nbT (decide_eq_false h22)) rfl ?_
        refine mRd rfl rfl (fun _ _ _ => dPickF (.t .z) (decide_eq_false h22) (.c rfl)) rfl rfl ?_
        refine mRd rfl rfl (fun _ _ _ => dMove (.t .z)) rfl rfl ?_
        refine mRdG rfl rfl rfl .z rfl (fun _ _ _ => dMove (.t (.s (.s (.s (.s (.s (.s (.s (.s (.s (.s (.s (.s (.s (.s .z)))))))))))))))) rfl rfl ?_
        refine mIx fun y31 h32 h33 => ?_
        refine mRdG rfl rfl rfl (.s .z) rfl (fun _ _ _ => dIxAddr (slRo .z) und_34 siz_5 (.t .z) (.c rfl) h32 h33) rfl rfl ?_
        refine mRdG rfl rfl rfl (.s (.s .z)) rfl (fun _ _ _ => dLoadE (slRo .z) agg_5 (.t .z) h33 (fun _ _ h => by cases h; rfl)) rfl rfl ?_
        refine mRdG rfl rfl rfl (.s (.s (.s .z))) rfl (fun _ _ _ => dEqB (.t .z) (.c (v' := vB 0) rfl)) rfl rfl ?_
        refine mRdG rfl rfl rfl (.s (.s (.s (.s .z)))) rfl (fun _ _ _ => dMove (.t .z)) rfl rfl ?_
        refine mCase (fun h34 => ?_) (fun h34 => ?_)
        · refine mRdG rfl rfl rfl .z (decide_eq_true h34) (fun _ _ _ => dMove (.t (.s (.s (.s (.s (.s (.s (.s (.s (.s (.s (.s (.s (.s (.s (.s (.s .z)))))))))))))))))) rfl rfl ?_
          refine mRdG rfl rfl rfl (.s (.s (.s (.s (.s (.s .z)))))) rfl (fun _ _ _ => dPickT (.t (.s .z)) (decide_eq_true h34) (.t .z)) rfl rfl ?_
          refine mRd rfl rfl (fun _ _ _ => dPickF (.t (.s (.s (.s (.s (.s (.s (.s .z)))))))) rfl (.t .z)) rfl rfl ?_
          refine mChU rfl rfl (uStoreA (us := [vB (1 : UInt8), vB y16, vB 0, vB 0, .slice none 0 0, .int .i64 0, .slice none 0 0]) (cs' := [vB (1 : UInt8), vB y16, vB 0, vB 0, .slice none 0 0, .int .i64 0, .slice none 0 0]) (.s .z) siz_102 rfl (by intro u hu; simp only [List.mem_cons, List.not_mem_nil, or_false] at hu; rcases hu with rfl | rfl | rfl | rfl | rfl | rfl | rfl <;> first | rfl | assumption) rfl (by simp) (.t (.s (.s (.s (.s (.s (.s (.s (.s (.s (.s (.s (.s (.s (.s (.s (.s (.s (.s (.s (.s (.s .z)))))))))))))))))))))) (.t (.s (.s (.s (.s (.s (.s (.s (.s (.s (.s (.s (.s (.s (.s (.s .z))))))))))))))))) (.c .z (.c .z .nil)) (.c .n) ?_
          refine mRdK rfl rfl (fun _ _ _ => dAssign (.t .z)) (.k (.k (.k (.k (.k (.k (.k (.k (.k (.k (.k (.k (.k (.k (.k (.k (.k (.k (.k (.k (.d (Keep.refl _)))))))))))))))))))))) rfl rfl ?_
          refine mKeep (.k (.d (.d (.d (.d (.d (.d (.d (.d (.d (.d (.d (.d (.d (.d (.d (.d (.d (.d (.d (.d (.k .n)))))))))))))))))))))) ?_
          refine mNil ?_
          refine xCode ?_
          refine cRet ?_
          refine rLeave hD ?_
          refine lvSt (roNil k_api_Order) ?_
          refine lvSt (roNil k_command_Field) ?_
          exact lvRet (rs := [.cell 2 102, .tmp 3]) rfl (.a (.s .z) (.s (.s (.s .z))) agg_102 siz_102 (.t .z .n)) (.slice none 0 0, .slice none 0 0) rfl (.c (.s .z) (.c .z .nil))
        · refine mPass rfl rfl rfl .z (nbT (decide_eq_false h34)) rfl ?_
          refine mRdG rfl rfl rfl (.s (.s (.s (.s (.s .z))))) rfl (fun _ _ _ => dPickF (.t .z) (decide_eq_false h34) (.c rfl)) rfl rfl ?_
          refine mRd rfl rfl (fun _ _ _ => dPickF (.t (.s (.s (.s (.s (.s (.s .z))))))) rfl (.t .z)) rfl rfl ?_
          refine mChU rfl rfl (uStoreA (us := [vB (1 : UInt8), vB y16, vB 0, vB 0, .slice none 0 0, .int .i64 0, .slice none 0 0]) (cs' := [vB (1 : UInt8), vB y16, vB 0, vB 0, .slice none 0 0, .int .i64 0, .slice none 0 0]) (.s .z) siz_102 rfl (by intro u hu; simp only [List.mem_cons, List.not_mem_nil, or_false] at hu; rcases hu with rfl | rfl | rfl | rfl | rfl | rfl | rfl <;> first | rfl | assumption) rfl (by simp) (.t (.s (.s (.s (.s (.s (.s (.s (.s (.s (.s (.s (.s (.s (.s (.s (.s (.s (.s (.s (.s .z))))))))))))))))))))) (.t (.s (.s (.s (.s (.s (.s (.s (.s (.s (.s (.s (.s (.s (.s .z)))))))))))))))) (.c .z (.c .z .nil)) (.c .n) ?_
          refine mRdK rfl rfl (fun _ _ _ => dAssign (.t .z)) (.k (.k (.k (.k (.k (.k (.k (.k (.k (.k (.k (.k (.k (.k (.k (.k (.k (.k (.k (.d (Keep.refl _))))))))))))))))))))) rfl rfl ?_
          refine mKeep (.k (.d (.d (.d (.d (.d (.d (.d (.d (.d (.d (.d (.d (.d (.d (.d (.d (.d (.d (.d (.k .n))))))))))))))))))))) ?_
          refine mNil ?_
          refine xCode ?_
          refine cRet ?_
          refine rLeave hD ?_
          refine lvSt (roNil k_api_Order) ?_
          refine lvSt (roNil k_command_Field) ?_
          exact lvRet (rs := [.cell 2 102, .tmp 3]) rfl (.a (.s .z) (.s (.s (.s .z))) agg_102 siz_102 (.t .z .n)) (.slice none 0 0, .slice none 0 0) rfl (.c (.s .z) (.c .z .nil))

-- greenscreen/command.reset
def command_reset_m (a0 : (List UInt8)) : Option (command_Field × Bool) := ((if (a0.length : Int) ≠ 1 then some true else (ix a0 0).bind fun y3 => (if y3 ≠ (0 : UInt8) then (ix a0 0).bind fun y7 => some (decide (y7 ≠ (128 : UInt8))) else some false))).bind fun (s10 : Bool) => (if s10 = true then some ((⟨0, 0, (⟨0, 0, [], 0, []⟩ : command_Command)⟩ : command_Field), false) else (ix a0 0).bind fun y13 => some ((⟨(3 : UInt8), y13, (⟨0, 0, [], 0, []⟩ : command_Command)⟩ : command_Field), true))
theorem command_reset_c (a0 : (List UInt8)) (v0_0 : Value) : Con Try.prog 68 #[v0_0] [.ro (kSl kB) [v0_0] a0] (command_reset_m a0) (fun (o : command_Field × Bool) (x : Value × Value) => .tuple #[.agg #[vB o.1.f_ID, vB o.1.f_Op, vB o.1.f_Inner.f_Kind, vB o.1.f_Inner.f_WCC, x.1, .int .i64 o.1.f_Inner.f_Err, x.2], .bool o.2]) (fun (o : command_Field × Bool) (x : Value × Value) => [.ro (kSl k_api_Order) [x.1] o.1.f_Inner.f_Orders, .ro (kSl k_command_Field) [x.2] o.1.f_Inner.f_Fields]) := by
  unfold command_reset_m
  refine con (args := [v0_0]) Try.func68 rfl 24 rfl (.c .n) rfl fun c hD hrn => ?_
  refine cSeq ?_
  refine cRegion ?_
  refine lCh (cAlloc (cs := [vB 0, vB 0, vB 0, vB 0, .slice none 0 0, .int .i64 0, .slice none 0 0]) zer_102 rfl) rfl rfl fun b1 => ?_
  refine lRd (dAssign (.c rfl)) rfl rfl ?_
  refine lNil ?_
  refine xCode ?_
  refine cSeq ?_
  refine cSeq ?_
  refine cJoin (S := Bool) (X := Unit) (fun (s : Bool) (x : Unit) => [(18, .bool s), (3, .bool false), (2, .pointer (some ⟨b1, 0, none⟩)), (0, v0_0)]) (fun (s : Bool) (x : Unit) => [.blk b1 [vB 0, vB 0, vB 0, vB 0, .slice none 0 0, .int .i64 0, .slice none 0 0] 102, .ro (kSl kB) [v0_0] a0]) ?_ (fun s10 x11 => ?_)
  · refine cRegion ?_
    refine lRd (dMove (.t (.s (.s .z)))) rfl rfl ?_
    refine lRd (dLen (at_ := #[34]) (slRo (.s .z)) rfl und_34 (.t .z)) rfl rfl ?_
    refine lRd (dNe (.t .z) (.c rfl)) rfl rfl ?_
    refine lRd (dMove (.t .z)) rfl rfl ?_
    refine lCase (fun h2 => ?_) (fun h2 => ?_)
    · refine lPass rfl .z (nbF (decide_eq_true h2)) rfl ?_
      refine lPass rfl .z (nbF (decide_eq_true h2)) rfl ?_
      refine lPass rfl .z (nbF (decide_eq_true h2)) rfl ?_
      refine lPass rfl .z (nbF (decide_eq_true h2)) rfl ?_
      refine lPassU rfl .z (nbF (decide_eq_true h2)) rfl rfl ?_
      refine lPass rfl .z nbU rfl ?_
      refine lPass rfl .z nbU rfl ?_
      refine lPass rfl .z nbU rfl ?_
      refine lPass rfl .z nbU rfl ?_
      refine lPass rfl (.s .z) (nbF (decide_eq_true h2)) rfl ?_
      refine lRd (dPickT (.t (.s .z)) (decide_eq_true h2) (.c rfl)) rfl rfl ?_
      refine lKeep (.k (.d (.d (.d (.d (.d (.k (.k (.k .n))))))))) ?_
      refine lNil ?_
      exact xJoin true () (.c .z (.c (.s .z) (.c (.s (.s .z)) (.c (.s (.s (.s .z))) .n)))) (.c .z (.c .z .nil))
    · refine lRdG rfl .z (decide_eq_false h2) (dMove (.t (.s (.s (.s (.s (.s (.s .z)))))))) rfl rfl ?_
      refine lIx fun y3 h4 h5 => ?_
      refine lRdG rfl (.s .z) (decide_eq_false h2) (dIxAddr (slRo (.s .z)) und_34 siz_5 (.t .z) (.c rfl) h4 h5) rfl rfl ?_
      refine lRdG rfl (.s (.s .z)) (decide_eq_false h2) (dLoadE (slRo (.s .z)) agg_5 (.t .z) h5 (fun _ _ h => by cases h; rfl)) rfl rfl ?_
      refine lRdG rfl (.s (.s (.s .z))) (decide_eq_false h2) (dNeB (.t .z) (.c (v' := vB 0) rfl)) rfl rfl ?_
      refine lRdG rfl (.s (.s (.s (.s .z)))) (decide_eq_false h2) (dMove (.t .z)) rfl rfl ?_
      refine lCase (fun h6 => ?_) (fun h6 => ?_)
      · refine lRdG rfl .z (decide_eq_true h6) (dMove (.t (.s (.s (.s (.s (.s (.s (.s (.s (.s (.s (.s .z))))))))))))) rfl rfl ?_
        refine lIx fun y7 h8 h9 => ?_
        refine lRdG rfl (.s .z) (decide_eq_true h6) (dIxAddr (slRo (.s .z)) und_34 siz_5 (.t .z) (.c rfl) h8 h9) rfl rfl ?_
        refine lRdG rfl (.s (.s .z)) (decide_eq_true h6) (dLoadE (slRo (.s .z)) agg_5 (.t .z) h9 (fun _ _ h => by cases h; rfl)) rfl rfl ?_
        refine lRdG rfl (.s (.s (.s .z))) (decide_eq_true h6) (dNeB (.t .z) (.c (v' := vB 128) rfl)) rfl rfl ?_
        refine lRdG rfl (.s (.s (.s (.s (.s (.s (.s (.s (.s .z))))))))) (decide_eq_false h2) (dPickT (.t (.s (.s (.s (.s .z))))) (decide_eq_true h6) (.t .z)) rfl rfl ?_
        refine lRd (dPickF (.t (.s (.s (.s (.s (.s (.s (.s (.s (.s (.s .z))))))))))) (decide_eq_false h2) (.t .z)) rfl rfl ?_
        refine lKeep (.k (.d (.d (.d (.d (.d (.d (.d (.d (.d (.d (.d (.d (.d (.d (.k (.k (.k .n)))))))))))))))))) ?_
        refine lNil ?_
        exact xJoin (decide (y7 ≠ (128 : UInt8))) () (.c .z (.c (.s .z) (.c (.s (.s .z)) (.c (.s (.s (.s .z))) .n)))) (.c .z (.c .z .nil))
      · refine lPass rfl .z (nbT (decide_eq_false h6)) rfl ?_
        refine lPass rfl .z (nbT (decide_eq_false h6)) rfl ?_
        refine lPass rfl .z (nbT (decide_eq_false h6)) rfl ?_
        refine lPass rfl .z (nbT (decide_eq_false h6)) rfl ?_
        refine lRdG rfl (.s (.s (.s (.s (.s .z))))) (decide_eq_false h2) (dPickF (.t .z) (decide_eq_false h6) (.c rfl)) rfl rfl ?_
        refine lRd (dPickF (.t (.s (.s (.s (.s (.s (.s .z))))))) (decide_eq_false h2) (.t .z)) rfl rfl ?_
        refine lKeep (.k (.d (.d (.d (.d (.d (.d (.d (.d (.d (.d (.k (.k (.k .n)))))))))))))) ?_
        refine lNil ?_
        exact xJoin false () (.c .z (.c (.s .z) (.c (.s (.s .z)) (.c (.s (.s (.s .z))) .n)))) (.c .z (.c .z .nil))
  · refine xCode ?_
    refine cCondB (.t .z) (fun h12 => ?_) (fun h12 => ?_)
    · refine cSeq ?_
      refine cRegion ?_
      refine lRd (dBuild (cs := [vB 0, vB 0, vB 0, vB 0, .slice none 0 0, .int .i64 0, .slice none 0 0]) zer_102 rfl plc_102 .n rfl) rfl rfl ?_
      refine lChU (uStoreA (us := [vB 0, vB 0, vB 0, vB 0, .slice none 0 0, .int .i64 0, .slice none 0 0]) (cs' := [vB 0, vB 0, vB 0, vB 0, .slice none 0 0, .int .i64 0, .slice none 0 0]) .z siz_102 rfl (by intro u hu; simp only [List.mem_cons, List.not_mem_nil, or_false] at hu; rcases hu with rfl | rfl | rfl | rfl | rfl | rfl | rfl <;> first | rfl | assumption) rfl (by simp) (.t (.s (.s (.s .z)))) (.t .z)) ?_
      refine lRdK (dAssign (.c rfl)) (.k (.k (.d (Keep.refl _)))) rfl rfl ?_
      refine lKeep (.k (.d (.d (.k (.k .n))))) ?_
      refine lNil ?_
      refine xCode ?_
      refine cRet ?_
      refine rLeave hD ?_
      refine lvSt (roNil k_api_Order) ?_
      refine lvSt (roNil k_command_Field) ?_
      exact lvRet (rs := [.cell 2 102, .tmp 3]) rfl (.a (.s .z) (.s (.s .z)) agg_102 siz_102 (.t .z .n)) (.slice none 0 0, .slice none 0 0) rfl (.c (.s .z) (.c .z .nil))
    · refine cSkip ?_
      refine xCode ?_
      refine cSeq ?_
      refine cRegion ?_
      refine lRd (dMove (.t (.s (.s (.s .z))))) rfl rfl ?_
      refine lIx fun y13 h14 h15 => ?_
      refine lRd (dIxAddr (slRo (.s .z)) und_34 siz_5 (.t .z) (.c rfl) h14 h15) rfl rfl ?_
      refine lRd (dLoadE (slRo (.s .z)) agg_5 (.t .z) h15 (fun _ _ h => by cases h; rfl)) rfl rfl ?_
      refine lRd (dBuild (cs := [vB (3 : UInt8), vB y13, vB 0, vB 0, .slice none 0 0, .int .i64 0, .slice none 0 0]) zer_102 rfl plc_102 (.c (.c (v' := vB 3) rfl) (.c (.t .z) .n)) rfl) rfl rfl ?_
      refine lChU (uStoreA (us := [vB (3 : UInt8), vB y13, vB 0, vB 0, .slice none 0 0, .int .i64 0, .slice none 0 0]) (cs' := [vB (3 : UInt8), vB y13, vB 0, vB 0, .slice none 0 0, .int .i64 0, .slice none 0 0]) .z siz_102 rfl (by intro u hu; simp only [List.mem_cons, List.not_mem_nil, or_false] at hu; rcases hu with rfl | rfl | rfl | rfl | rfl | rfl | rfl <;> first | rfl | assumption) rfl (by simp) (.t (.s (.s (.s (.s (.s (.s .z))))))) (.t .z)) ?_
      refine lRdK (dAssign (.c rfl)) (.k (.k (.k (.k (.k (.d (Keep.refl _))))))) rfl rfl ?_
      refine lKeep (.k (.d (.d (.d (.d (.d (.k .n))))))) ?_
      refine lNil ?_
      refine xCode ?_
      refine cRet ?_
      refine rLeave hD ?_
      refine lvSt (roNil k_api_Order) ?_
      refine lvSt (roNil k_command_Field) ?_
      exact lvRet (rs := [.cell 2 102, .tmp 3]) rfl (.a (.s .z) (.s (.s .z)) agg_102 siz_102 (.t .z .n)) (.slice none 0 0, .slice none 0 0) rfl (.c (.s .z) (.c .z .nil))

-- greenscreen/command.inner
def command_inner_m (a0 : UInt8) : Option (Bool) := (command_writes_m a0).bind fun o1 => (if o1 = true then some true else some (decide (a0 = (111 : UInt8))))
theorem command_inner_c (a0 : UInt8) : Con Try.prog 79 #[vB a0] [] (command_inner_m a0) (fun (o : Bool) (x : Unit) => .bool o) (fun (o : Bool) (x : Unit) => []) := by
  unfold command_inner_m
  refine con (args := [vB a0]) Try.func79 rfl 9 rfl (.c .n) rfl fun c hD hrn => ?_
  refine cSeq ?_
  refine cRegion ?_
  refine lRd (dAssign (.c rfl)) rfl rfl ?_
  refine lNil ?_
  refine xCode ?_
  refine cSeq ?_
  refine cRegion ?_
  refine lRd (dMove (.t (.s .z))) rfl rfl ?_
  refine lCall fok_29 (.c (.t .z) .n) (command_writes_c a0) .n rfl rfl fun o1 x2 h3 => ?_
  refine lRd (dMove (.t .z)) rfl rfl ?_
  refine lCase (fun h4 => ?_) (fun h4 => ?_)
  · refine lPass rfl .z (nbF h4) rfl ?_
    refine lPass rfl .z (nbF h4) rfl ?_
    refine lRd (dPickT (.t .z) h4 (.c rfl)) rfl rfl ?_
    refine lRdK (dAssign (.t .z)) (.k (.k (.k (.k (.d (Keep.refl _)))))) rfl rfl ?_
    refine lKeep (.k .n) ?_
    refine lNil ?_
    refine xCode ?_
    refine cRet ?_
    refine rLeave hD ?_
    exact lvRet (rs := [.tmp 2]) rfl (.t .z .n) () rfl .nil
  · refine lRdG rfl .z (Bool.eq_false_iff.mpr h4) (dMove (.t (.s (.s (.s (.s .z)))))) rfl rfl ?_
    refine lRdG rfl (.s .z) (Bool.eq_false_iff.mpr h4) (dEqB (.t .z) (.c (v' := vB 111) rfl)) rfl rfl ?_
    refine lRd (dPickF (.t (.s (.s .z))) (Bool.eq_false_iff.mpr h4) (.t .z)) rfl rfl ?_
    refine lRdK (dAssign (.t .z)) (.k (.k (.k (.k (.k (.k (.d (Keep.refl _)))))))) rfl rfl ?_
    refine lKeep (.k .n) ?_
    refine lNil ?_
    refine xCode ?_
    refine cRet ?_
    refine rLeave hD ?_
    exact lvRet (rs := [.tmp 2]) rfl (.t .z .n) () rfl .nil

-- greenscreen/command.write
def command_write_m (R_command_Parse : ((List UInt8) → Option (command_Command × Int))) (a0 : (List UInt8)) : Option (command_Field × Bool) := ((if (a0.length : Int) < 2 then some true else (ix a0 0).bind fun y3 => some (decide (y3 ≠ (0 : UInt8))))).bind fun (s6 : Bool) => (if s6 = true then some ((⟨0, 0, (⟨0, 0, [], 0, []⟩ : command_Command)⟩ : command_Field), false) else (sub a0 1 (a0.length : Int)).bind fun r9 => (R_command_Parse r9).bind fun o11 => (if o11.2 = 0 then (command_inner_m o11.1.f_Kind).bind fun o20 => some ((⟨(64 : UInt8), 0, o11.1⟩ : command_Field), o20) else some ((⟨(64 : UInt8), 0, o11.1⟩ : command_Field), false)))
theorem command_write_c (R_command_Parse : ((List UInt8) → Option (command_Command × Int))) (hR_command_Parse : ∀ (a0 : (List UInt8)) (v0_0 : Value), Con Try.prog 19 #[v0_0] [.ro (kSl kB) [v0_0] a0] (R_command_Parse a0) (fun (o : command_Command × Int) (x : Value × Value) => .tuple #[.agg #[vB o.1.f_Kind, vB o.1.f_WCC, x.1, .int .i64 o.1.f_Err, x.2], .int .i64 o.2]) (fun (o : command_Command × Int) (x : Value × Value) => [.ro (kSl k_api_Order) [x.1] o.1.f_Orders, .ro (kSl k_command_Field) [x.2] o.1.f_Fields])) (a0 : (List UInt8)) (v0_0 : Value) : Con Try.prog 69 #[v0_0] [.ro (kSl kB) [v0_0] a0] (command_write_m R_command_Parse a0) (fun (o : command_Field × Bool) (x : Value × Value) => .tuple #[.agg #[vB o.1.f_ID, vB o.1.f_Op, vB o.1.f_Inner.f_Kind, vB o.1.f_Inner.f_WCC, x.1, .int .i64 o.1.f_Inner.f_Err, x.2], .bool o.2]) (fun (o : command_Field × Bool) (x : Value × Value) => [.ro (kSl k_api_Order) [x.1] o.1.f_Inner.f_Orders, .ro (kSl k_command_Field) [x.2] o.1.f_Inner.f_Fields]) := by
  unfold command_write_m
  refine con (args := [v0_0]) Try.func69 rfl 31 rfl (.c .n) rfl fun c hD hrn => ?_
  refine cSeq ?_
  refine cRegion ?_
  refine lCh (cAlloc (cs := [vB 0, vB 0, vB 0, vB 0, .slice none 0 0, .int .i64 0, .slice none 0 0]) zer_102 rfl) rfl rfl fun b1 => ?_
  refine lRd (dAssign (.c rfl)) rfl rfl ?_
  refine lNil ?_
  refine xCode ?_
  refine cSeq ?_
  refine cSeq ?_
  refine cJoin (S := Bool) (X := Unit) (fun (s : Bool) (x : Unit) => [(14, .bool s), (3, .bool false), (2, .pointer (some ⟨b1, 0, none⟩)), (0, v0_0)]) (fun (s : Bool) (x : Unit) => [.blk b1 [vB 0, vB 0, vB 0, vB 0, .slice none 0 0, .int .i64 0, .slice none 0 0] 102, .ro (kSl kB) [v0_0] a0]) ?_ (fun s6 x7 => ?_)
  · refine cRegion ?_
    refine lRd (dMove (.t (.s (.s .z)))) rfl rfl ?_
    refine lRd (dLen (at_ := #[34]) (slRo (.s .z)) rfl und_34 (.t .z)) rfl rfl ?_
    refine lRd (dLt (.t .z) (.c rfl)) rfl rfl ?_
    refine lRd (dMove (.t .z)) rfl rfl ?_
    refine lCase (fun h2 => ?_) (fun h2 => ?_)
    · refine lPass rfl .z (nbF (decide_eq_true h2)) rfl ?_
      refine lPass rfl .z (nbF (decide_eq_true h2)) rfl ?_
      refine lPass rfl .z (nbF (decide_eq_true h2)) rfl ?_
      refine lPass rfl .z (nbF (decide_eq_true h2)) rfl ?_
      refine lRd (dPickT (.t .z) (decide_eq_true h2) (.c rfl)) rfl rfl ?_
      refine lKeep (.k (.d (.d (.d (.d (.k (.k (.k .n)))))))) ?_
      refine lNil ?_
      exact xJoin true () (.c .z (.c (.s .z) (.c (.s (.s .z)) (.c (.s (.s (.s .z))) .n)))) (.c .z (.c .z .nil))
    · refine lRdG rfl .z (decide_eq_false h2) (dMove (.t (.s (.s (.s (.s (.s (.s .z)))))))) rfl rfl ?_
      refine lIx fun y3 h4 h5 => ?_
      refine lRdG rfl (.s .z) (decide_eq_false h2) (dIxAddr (slRo (.s .z)) und_34 siz_5 (.t .z) (.c rfl) h4 h5) rfl rfl ?_
      refine lRdG rfl (.s (.s .z)) (decide_eq_false h2) (dLoadE (slRo (.s .z)) agg_5 (.t .z) h5 (fun _ _ h => by cases h; rfl)) rfl rfl ?_
      refine lRdG rfl (.s (.s (.s .z))) (decide_eq_false h2) (dNeB (.t .z) (.c (v' := vB 0) rfl)) rfl rfl ?_
      refine lRd (dPickF (.t (.s (.s (.s (.s .z))))) (decide_eq_false h2) (.t .z)) rfl rfl ?_
      refine lKeep (.k (.d (.d (.d (.d (.d (.d (.d (.d (.k (.k (.k .n)))))))))))) ?_
      refine lNil ?_
      exact xJoin (decide (y3 ≠ (0 : UInt8))) () (.c .z (.c (.s .z) (.c (.s (.s .z)) (.c (.s (.s (.s .z))) .n)))) (.c .z (.c .z .nil))
  · refine xCode ?_
    refine cCondB (.t .z) (fun h8 => ?_) (fun h8 => ?_)
    · refine cSeq ?_
      refine cRegion ?_
      refine lRd (dBuild (cs := [vB 0, vB 0, vB 0, vB 0, .slice none 0 0, .int .i64 0, .slice none 0 0]) zer_102 rfl plc_102 .n rfl) rfl rfl ?_
      refine lChU (uStoreA (us := [vB 0, vB 0, vB 0, vB 0, .slice none 0 0, .int .i64 0, .slice none 0 0]) (cs' := [vB 0, vB 0, vB 0, vB 0, .slice none 0 0, .int .i64 0, .slice none 0 0]) .z siz_102 rfl (by intro u hu; simp only [List.mem_cons, List.not_mem_nil, or_false] at hu; rcases hu with rfl | rfl | rfl | rfl | rfl | rfl | rfl <;> first | rfl | assumption) rfl (by simp) (.t (.s (.s (.s .z)))) (.t .z)) ?_
      refine lRdK (dAssign (.c rfl)) (.k (.k (.d (Keep.refl _)))) rfl rfl ?_
      refine lKeep (.k (.d (.d (.k (.k .n))))) ?_
      refine lNil ?_
      refine xCode ?_
      refine cRet ?_
      refine rLeave hD ?_
      refine lvSt (roNil k_api_Order) ?_
      refine lvSt (roNil k_command_Field) ?_
      exact lvRet (rs := [.cell 2 102, .tmp 3]) rfl (.a (.s .z) (.s (.s .z)) agg_102 siz_102 (.t .z .n)) (.slice none 0 0, .slice none 0 0) rfl (.c (.s .z) (.c .z .nil))
    · refine cSkip ?_
      refine xCode ?_
      refine cSeq ?_
      refine cRegion ?_
      refine lRd (dMove (.t (.s (.s (.s .z))))) rfl rfl ?_
      refine lBind fun r9 h10 => ?_
      refine lSt (roSub (.s .z) h10) ?_
      refine lRd (dSlice (ys := r9) (slRo (.s (.s .z))) und_34 siz_5 (.t .z) ⟨_, (.c rfl)⟩ rfl h10) rfl rfl ?_
      refine lCall fok_19 (.c (.t .z) .n) (hR_command_Parse r9 (slc v0_0 (kB).n (Int.toNat 1) (Int.toNat (a0.length : Int)))) (.r .z .n) rfl rfl fun o11 x12 h13 => ?_
      refine lRd (dMove (.t .z)) rfl rfl ?_
      refine lRd (dExtract (.t .z) rfl) rfl rfl ?_
      refine lRd (dExtract (.t (.s .z)) rfl) rfl rfl ?_
      refine lCh (cAlloc (cs := [vB 0, vB 0, .slice none 0 0, .int .i64 0, .slice none 0 0]) zer_58 rfl) rfl rfl fun b14 => ?_
      refine lFact (oneRo (.s .z)) fun h15 => ?_
      refine lFact (oneRo (.s (.s .z))) fun h16 => ?_
      refine lChU (uStoreA (us := [vB o11.1.f_Kind, vB o11.1.f_WCC, x12.1, .int .i64 o11.1.f_Err, x12.2]) (cs' := [vB o11.1.f_Kind, vB o11.1.f_WCC, x12.1, .int .i64 o11.1.f_Err, x12.2]) .z siz_58 rfl (by intro u hu; simp only [List.mem_cons, List.not_mem_nil, or_false] at hu; rcases hu with rfl | rfl | rfl | rfl | rfl <;> first | rfl | assumption) rfl (by simp) (.t .z) (.t (.s (.s .z)))) ?_
      refine lRd (dAssign (.t (.s .z))) rfl rfl ?_
      refine lKeep (.k (.k (.d (.d (.d (.d (.d (.d (.d (.k (.k .n))))))))))) ?_
      refine lNil ?_
      refine xCode ?_
      refine cSeq ?_
      refine cFact (oneRo (.s .z)) fun h17 => ?_
      refine cFact (oneRo (.s (.s .z))) fun h18 => ?_
      refine cRegionM [9] [(0, .early), (1, .early), (2, .early), (3, .early), (4, .early), (5, .early), (6, .early), (7, .early), (8, .quiet), (9, .only), (10, .quiet)] mixed (by kernel_rfl) (.c .z (.c .z (.c .z (.c .z (.c (.s .z) (.c .z .nil)))))) (.c (.c (.c (.c (.c .n))))) ?_
      refine mRd rfl rfl (fun _ _ _ => dLoadA (us := [vB o11.1.f_Kind, vB o11.1.f_WCC, x12.1, .int .i64 o11.1.f_Err, x12.2]) .z agg_58 siz_58 rfl (.t (.s .z)) rfl) rfl rfl ?_
      refine mRd rfl rfl (fun _ _ _ => dBuild (cs := [vB (64 : UInt8), vB 0, vB o11.1.f_Kind, vB o11.1.f_WCC, x12.1, .int .i64 o11.1.f_Err, x12.2]) zer_102 rfl plc_102 (.c (.c (v' := vB 64) rfl) (.c (.t .z) .n)) rfl) rfl rfl ?_
      refine mRd rfl rfl (fun _ _ _ => dMove (.t (.s (.s .z)))) rfl rfl ?_
      refine mRd rfl rfl (fun _ _ _ => dEq (.t .z) (.c rfl)) rfl rfl ?_
      refine mRd rfl rfl (fun _ _ _ => dMove (.t .z)) rfl rfl ?_
      refine mCase (fun h19 => ?_) (fun h19 => ?_)
      · refine mRdG rfl rfl rfl .z (decide_eq_true h19) (fun _ _ _ => dFld fld_58_0 (by decide) (.t (.s (.s (.s (.s (.s (.s .z))))))) rfl) rfl rfl ?_
        refine mRdG rfl rfl rfl (.s .z) (decide_eq_true h19) (fun _ _ _ => dLoad .z agg_5 (.t .z) rfl) rfl rfl ?_
        refine mCallQG rfl rfl rfl (.s (.s .z)) (decide_eq_true h19) fok_79 (.c (.t .z) .n) (command_inner_c o11.1.f_Kind) .n (fun _ _ => rfl) (fun _ _ => (.c .z (.c .z (.c .z (.c .z (.c .z (.c .z .nil))))))) rfl rfl fun o20 h22 => ?_
        refine mRd rfl rfl (fun _ _ _ => dPickT (.t (.s (.s (.s .z)))) (decide_eq_true h19) (.t .z)) rfl rfl ?_
        refine mChU rfl rfl (uStoreA (us := [vB (64 : UInt8), vB 0, vB o11.1.f_Kind, vB o11.1.f_WCC, x12.1, .int .i64 o11.1.f_Err, x12.2]) (cs' := [vB (64 : UInt8), vB 0, vB o11.1.f_Kind, vB o11.1.f_WCC, x12.1, .int .i64 o11.1.f_Err, x12.2]) (.s (.s (.s (.s (.s .z))))) siz_102 rfl (by intro u hu; simp only [List.mem_cons, List.not_mem_nil, or_false] at hu; rcases hu with rfl | rfl | rfl | rfl | rfl | rfl | rfl <;> first | rfl | assumption) rfl (by simp) (.t (.s (.s (.s (.s (.s (.s (.s (.s (.s (.s (.s (.s .z))))))))))))) (.t (.s (.s (.s (.s (.s (.s (.s .z))))))))) (.c .z (.c .z (.c .z (.c .z (.c .z (.c .z .nil)))))) (.c (.c (.c (.c (.c .n))))) ?_
        refine mRdK rfl rfl (fun _ _ _ => dAssign (.t .z)) (.k (.k (.k (.k (.k (.k (.k (.k (.k (.k (.k (.d (Keep.refl _))))))))))))) rfl rfl ?_
        refine mKeep (.k (.d (.d (.d (.d (.d (.d (.d (.d (.d (.d (.d (.k .n))))))))))))) ?_
        refine mNil ?_
        refine xCode ?_
        refine cRet ?_
        refine rLeave hD ?_
        exact lvRet (rs := [.cell 2 102, .tmp 3]) rfl (.a (.s .z) (.s (.s (.s (.s (.s .z))))) agg_102 siz_102 (.t .z .n)) (x12.1, x12.2) rfl (.c (.s .z) (.c (.s .z) .nil))
      · refine mPass rfl rfl rfl .z (nbT (decide_eq_false h19)) rfl ?_
        refine mPass rfl rfl rfl .z (nbT (decide_eq_false h19)) rfl ?_
        refine mPass rfl rfl rfl .z (nbT (decide_eq_false h19)) rfl ?_
        refine mRd rfl rfl (fun _ _ _ => dPickF (.t .z) (decide_eq_false h19) (.c rfl)) rfl rfl ?_
        refine mChU rfl rfl (uStoreA (us := [vB (64 : UInt8), vB 0, vB o11.1.f_Kind, vB o11.1.f_WCC, x12.1, .int .i64 o11.1.f_Err, x12.2]) (cs' := [vB (64 : UInt8), vB 0, vB o11.1.f_Kind, vB o11.1.f_WCC, x12.1, .int .i64 o11.1.f_Err, x12.2]) (.s (.s (.s (.s (.s .z))))) siz_102 rfl (by intro u hu; simp only [List.mem_cons, List.not_mem_nil, or_false] at hu; rcases hu with rfl | rfl | rfl | rfl | rfl | rfl | rfl <;> first | rfl | assumption) rfl (by simp) (.t (.s (.s (.s (.s (.s (.s (.s (.s (.s .z)))))))))) (.t (.s (.s (.s (.s .z)))))) (.c .z (.c .z (.c .z (.c .z (.c .z (.c .z .nil)))))) (.c (.c (.c (.c (.c .n))))) ?_
        refine mRdK rfl rfl (fun _ _ _ => dAssign (.t .z)) (.k (.k (.k (.k (.k (.k (.k (.k (.d (Keep.refl _)))))))))) rfl rfl ?_
        refine mKeep (.k (.d (.d (.d (.d (.d (.d (.d (.d (.k .n)))))))))) ?_
        refine mNil ?_
        refine xCode ?_
        refine cRet ?_
        refine rLeave hD ?_
        exact lvRet (rs := [.cell 2 102, .tmp 3]) rfl (.a (.s .z) (.s (.s (.s (.s (.s .z))))) agg_102 siz_102 (.t .z .n)) (x12.1, x12.2) rfl (.c (.s .z) (.c (.s .z) .nil))

-- greenscreen/command.one
def command_one_m (R_command_Parse : ((List UInt8) → Option (command_Command × Int))) (a0 : (List UInt8)) : Option (command_Field × Bool) := (ix a0 0).bind fun y2 => (if y2 = (1 : UInt8) then (sub a0 1 (a0.length : Int)).bind fun r6 => (command_read_m r6).bind fun o8 => some (o8.1, o8.2) else (if y2 = (3 : UInt8) then (sub a0 1 (a0.length : Int)).bind fun r14 => (command_reset_m r14).bind fun o16 => some (o16.1, o16.2) else (if y2 = (64 : UInt8) then (sub a0 1 (a0.length : Int)).bind fun r22 => (command_write_m R_command_Parse r22).bind fun o24 => some (o24.1, o24.2) else some ((⟨0, 0, (⟨0, 0, [], 0, []⟩ : command_Command)⟩ : command_Field), false))))
theorem command_one_c (R_command_Parse : ((List UInt8) → Option (command_Command × Int))) (hR_command_Parse : ∀ (a0 : (List UInt8)) (v0_0 : Value), Con Try.prog 19 #[v0_0] [.ro (kSl kB) [v0_0] a0] (R_command_Parse a0) (fun (o : command_Command × Int) (x : Value × Value) => .tuple #[.agg #[vB o.1.f_Kind, vB o.1.f_WCC, x.1, .int .i64 o.1.f_Err, x.2], .int .i64 o.2]) (fun (o : command_Command × Int) (x : Value × Value) => [.ro (kSl k_api_Order) [x.1] o.1.f_Orders, .ro (kSl k_command_Field) [x.2] o.1.f_Fields])) (a0 : (List UInt8)) (v0_0 : Value) : Con Try.prog 46 #[v0_0] [.ro (kSl kB) [v0_0] a0] (command_one_m R_command_Parse a0) (fun (o : command_Field × Bool) (x : Value × Value) => .tuple #[.agg #[vB o.1.f_ID, vB o.1.f_Op, vB o.1.f_Inner.f_Kind, vB o.1.f_Inner.f_WCC, x.1, .int .i64 o.1.f_Inner.f_Err, x.2], .bool o.2]) (fun (o : command_Field × Bool) (x : Value × Value) => [.ro (kSl k_api_Order) [x.1] o.1.f_Inner.f_Orders, .ro (kSl k_command_Field) [x.2] o.1.f_Inner.f_Fields]) := by
  unfold command_one_m
  refine con (args := [v0_0]) Try.func46 rfl 29 rfl (.c .n) rfl fun c hD hrn => ?_
  refine cSeq ?_
  refine cRegion ?_
  refine lCh (cAlloc (cs := [vB 0, vB 0, vB 0, vB 0, .slice none 0 0, .int .i64 0, .slice none 0 0]) zer_102 rfl) rfl rfl fun b1 => ?_
  refine lRd (dAssign (.c rfl)) rfl rfl ?_
  refine lNil ?_
  refine xCode ?_
  refine cSeq ?_
  refine cSeq ?_
  refine cRegion ?_
  refine lRd (dMove (.t (.s (.s .z)))) rfl rfl ?_
  refine lIx fun y2 h3 h4 => ?_
  refine lRd (dIxAddr (slRo (.s .z)) und_34 siz_5 (.t .z) (.c rfl) h3 h4) rfl rfl ?_
  refine lRd (dLoadE (slRo (.s .z)) agg_5 (.t .z) h4 (fun _ _ h => by cases h; rfl)) rfl rfl ?_
  refine lKeep (.k (.d (.d (.k (.k (.k .n)))))) ?_
  refine lNil ?_
  refine xCode ?_
  refine cBlock ?_
  refine cSeq ?_
  refine cRegion ?_
  refine lRd (dEqB (.t .z) (.c (v' := vB 1) rfl)) rfl rfl ?_
  refine lRd (dAssign (.t .z)) rfl rfl ?_
  refine lKeep (.k (.d (.k (.k (.k (.k .n)))))) ?_
  refine lNil ?_
  refine xCode ?_
  refine cCond (.t .z) (fun h5 => ?_) (fun h5 => ?_)
  · refine cSeq ?_
    refine cRegion ?_
    refine lRd (dMove (.t (.s (.s (.s (.s .z)))))) rfl rfl ?_
    refine lBind fun r6 h7 => ?_
    refine lSt (roSub (.s .z) h7) ?_
    refine lRd (dSlice (ys := r6) (slRo (.s (.s .z))) und_34 siz_5 (.t .z) ⟨_, (.c rfl)⟩ rfl h7) rfl rfl ?_
    refine lCall fok_67 (.c (.t .z) .n) (command_read_c r6 (slc v0_0 (kB).n (Int.toNat 1) (Int.toNat (a0.length : Int)))) (.r .z .n) rfl rfl fun o8 x9 h10 => ?_
    refine lRd (dExtract (.t .z) rfl) rfl rfl ?_
    refine lRd (dExtract (.t (.s .z)) rfl) rfl rfl ?_
    refine lFact (oneRo .z) fun h11 => ?_
    refine lFact (oneRo (.s .z)) fun h12 => ?_
    refine lChU (uStoreA (us := [vB o8.1.f_ID, vB o8.1.f_Op, vB o8.1.f_Inner.f_Kind, vB o8.1.f_Inner.f_WCC, x9.1, .int .i64 o8.1.f_Inner.f_Err, x9.2]) (cs' := [vB o8.1.f_ID, vB o8.1.f_Op, vB o8.1.f_Inner.f_Kind, vB o8.1.f_Inner.f_WCC, x9.1, .int .i64 o8.1.f_Inner.f_Err, x9.2]) (.s (.s (.s .z))) siz_102 rfl (by intro u hu; simp only [List.mem_cons, List.not_mem_nil, or_false] at hu; rcases hu with rfl | rfl | rfl | rfl | rfl | rfl | rfl <;> first | rfl | assumption) rfl (by simp) (.t (.s (.s (.s (.s (.s (.s (.s (.s .z))))))))) (.t (.s .z))) ?_
    refine lRdK (dAssign (.t .z)) (.k (.k (.k (.k (.k (.k (.k (.d (Keep.refl _))))))))) rfl rfl ?_
    refine lKeep (.k (.d (.d (.d (.d (.d (.d (.d (.k .n))))))))) ?_
    refine lNil ?_
    refine xCode ?_
    refine cRet ?_
    refine rLeave hD ?_
    exact lvRet (rs := [.cell 2 102, .tmp 3]) rfl (.a (.s .z) (.s (.s (.s .z))) agg_102 siz_102 (.t .z .n)) (x9.1, x9.2) rfl (.c .z (.c .z .nil))
  · refine cSeq ?_
    refine cRegion ?_
    refine lRd (dEqB (.t (.s .z)) (.c (v' := vB 3) rfl)) rfl rfl ?_
    refine lRd (dAssign (.t .z)) rfl rfl ?_
    refine lKeep (.k (.d (.d (.k (.k (.k (.k .n))))))) ?_
    refine lNil ?_
    refine xCode ?_
    refine cCond (.t .z) (fun h13 => ?_) (fun h13 => ?_)
    · refine cSeq ?_
      refine cRegion ?_
      refine lRd (dMove (.t (.s (.s (.s (.s .z)))))) rfl rfl ?_
      refine lBind fun r14 h15 => ?_
      refine lSt (roSub (.s .z) h15) ?_
      refine lRd (dSlice (ys := r14) (slRo (.s (.s .z))) und_34 siz_5 (.t .z) ⟨_, (.c rfl)⟩ rfl h15) rfl rfl ?_
      refine lCall fok_68 (.c (.t .z) .n) (command_reset_c r14 (slc v0_0 (kB).n (Int.toNat 1) (Int.toNat (a0.length : Int)))) (.r .z .n) rfl rfl fun o16 x17 h18 => ?_
      refine lRd (dExtract (.t .z) rfl) rfl rfl ?_
      refine lRd (dExtract (.t (.s .z)) rfl) rfl rfl ?_
      refine lFact (oneRo .z) fun h19 => ?_
      refine lFact (oneRo (.s .z)) fun h20 => ?_
      refine lChU (uStoreA (us := [vB o16.1.f_ID, vB o16.1.f_Op, vB o16.1.f_Inner.f_Kind, vB o16.1.f_Inner.f_WCC, x17.1, .int .i64 o16.1.f_Inner.f_Err, x17.2]) (cs' := [vB o16.1.f_ID, vB o16.1.f_Op, vB o16.1.f_Inner.f_Kind, vB o16.1.f_Inner.f_WCC, x17.1, .int .i64 o16.1.f_Inner.f_Err, x17.2]) (.s (.s (.s .z))) siz_102 rfl (by intro u hu; simp only [List.mem_cons, List.not_mem_nil, or_false] at hu; rcases hu with rfl | rfl | rfl | rfl | rfl | rfl | rfl <;> first | rfl | assumption) rfl (by simp) (.t (.s (.s (.s (.s (.s (.s (.s (.s .z))))))))) (.t (.s .z))) ?_
      refine lRdK (dAssign (.t .z)) (.k (.k (.k (.k (.k (.k (.k (.d (Keep.refl _))))))))) rfl rfl ?_
      refine lKeep (.k (.d (.d (.d (.d (.d (.d (.d (.k .n))))))))) ?_
      refine lNil ?_
      refine xCode ?_
      refine cRet ?_
      refine rLeave hD ?_
      exact lvRet (rs := [.cell 2 102, .tmp 3]) rfl (.a (.s .z) (.s (.s (.s .z))) agg_102 siz_102 (.t .z .n)) (x17.1, x17.2) rfl (.c .z (.c .z .nil))
    · refine cSeq ?_
      refine cRegion ?_
      refine lRd (dEqB (.t (.s .z)) (.c (v' := vB 64) rfl)) rfl rfl ?_
      refine lRd (dAssign (.t .z)) rfl rfl ?_
      refine lKeep (.k (.d (.d (.d (.k (.k (.k .n))))))) ?_
      refine lNil ?_
      refine xCode ?_
      refine cCond (.t .z) (fun h21 => ?_) (fun h21 => ?_)
      · refine cSeq ?_
        refine cRegion ?_
        refine lRd (dMove (.t (.s (.s (.s .z))))) rfl rfl ?_
        refine lBind fun r22 h23 => ?_
        refine lSt (roSub (.s .z) h23) ?_
        refine lRd (dSlice (ys := r22) (slRo (.s (.s .z))) und_34 siz_5 (.t .z) ⟨_, (.c rfl)⟩ rfl h23) rfl rfl ?_
        refine lCall fok_69 (.c (.t .z) .n) (command_write_c R_command_Parse hR_command_Parse r22 (slc v0_0 (kB).n (Int.toNat 1) (Int.toNat (a0.length : Int)))) (.r .z .n) rfl rfl fun o24 x25 h26 => ?_
        refine lRd (dExtract (.t .z) rfl) rfl rfl ?_
        refine lRd (dExtract (.t (.s .z)) rfl) rfl rfl ?_
        refine lFact (oneRo .z) fun h27 => ?_
        refine lFact (oneRo (.s .z)) fun h28 => ?_
        refine lChU (uStoreA (us := [vB o24.1.f_ID, vB o24.1.f_Op, vB o24.1.f_Inner.f_Kind, vB o24.1.f_Inner.f_WCC, x25.1, .int .i64 o24.1.f_Inner.f_Err, x25.2]) (cs' := [vB o24.1.f_ID, vB o24.1.f_Op, vB o24.1.f_Inner.f_Kind, vB o24.1.f_Inner.f_WCC, x25.1, .int .i64 o24.1.f_Inner.f_Err, x25.2]) (.s (.s (.s .z))) siz_102 rfl (by intro u hu; simp only [List.mem_cons, List.not_mem_nil, or_false] at hu; rcases hu with rfl | rfl | rfl | rfl | rfl | rfl | rfl <;> first | rfl | assumption) rfl (by simp) (.t (.s (.s (.s (.s (.s (.s (.s .z)))))))) (.t (.s .z))) ?_
        refine lRdK (dAssign (.t .z)) (.k (.k (.k (.k (.k (.k (.d (Keep.refl _)))))))) rfl rfl ?_
        refine lKeep (.k (.d (.d (.d (.d (.d (.d (.k .n)))))))) ?_
        refine lNil ?_
        refine xCode ?_
        refine cRet ?_
        refine rLeave hD ?_
        exact lvRet (rs := [.cell 2 102, .tmp 3]) rfl (.a (.s .z) (.s (.s (.s .z))) agg_102 siz_102 (.t .z .n)) (x25.1, x25.2) rfl (.c .z (.c .z .nil))
      · refine cSkip ?_
        refine xBlock ?_
        refine xCode ?_
        refine cSeq ?_
        refine cRegion ?_
        refine lRd (dBuild (cs := [vB 0, vB 0, vB 0, vB 0, .slice none 0 0, .int .i64 0, .slice none 0 0]) zer_102 rfl plc_102 .n rfl) rfl rfl ?_
        refine lChU (uStoreA (us := [vB 0, vB 0, vB 0, vB 0, .slice none 0 0, .int .i64 0, .slice none 0 0]) (cs' := [vB 0, vB 0, vB 0, vB 0, .slice none 0 0, .int .i64 0, .slice none 0 0]) .z siz_102 rfl (by intro u hu; simp only [List.mem_cons, List.not_mem_nil, or_false] at hu; rcases hu with rfl | rfl | rfl | rfl | rfl | rfl | rfl <;> first | rfl | assumption) rfl (by simp) (.t (.s (.s (.s .z)))) (.t .z)) ?_
        refine lRdK (dAssign (.c rfl)) (.k (.k (.d (Keep.refl _)))) rfl rfl ?_
        refine lKeep (.k (.d (.d (.k .n)))) ?_
        refine lNil ?_
        refine xCode ?_
        refine cRet ?_
        refine rLeave hD ?_
        refine lvSt (roNil k_api_Order) ?_
        refine lvSt (roNil k_command_Field) ?_
        exact lvRet (rs := [.cell 2 102, .tmp 3]) rfl (.a (.s .z) (.s (.s .z)) agg_102 siz_102 (.t .z .n)) (.slice none 0 0, .slice none 0 0) rfl (.c (.s .z) (.c .z .nil))

end Go.Proofs.Ytecipnjloenndaa.G
