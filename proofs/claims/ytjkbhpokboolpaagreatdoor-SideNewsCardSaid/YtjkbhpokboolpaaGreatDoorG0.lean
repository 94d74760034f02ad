import Derived.Test.YtjkbhpokboolpaaGreatDoorProg
import Derived.Test.YtjkbhpokboolpaaGreatDoorV4
import Derived.Test.YtjkbhpokboolpaaGreatDoorV5
import Derived.Test.YtjkbhpokboolpaaGreatDoorVF
import Derived.Test.YtjkbhpokboolpaaGreatDoorV6
import Derived.Test.YtjkbhpokboolpaaGreatDoorV7
import Derived.Test.YtjkbhpokboolpaaGreatDoorV9
import Derived.Test.YtjkbhpokboolpaaGreatDoorVD
import Derived.Test.YtjkbhpokboolpaaGreatDoorVC
namespace Go.Proofs.YtjkbhpokboolpaaGreatDoor.Sx
open Go
set_option maxRecDepth 100000
set_option maxHeartbeats 4000000
structure api_Attr where
  Protected : Bool
  Numeric : Bool
  Show : Int
  Modified : Bool
  deriving DecidableEq, Inhabited
def t_api_Attr : Ty api_Attr where
  size := 4
  rep I h cs x := cs = [.bool x.Protected, .bool x.Numeric, .int .i64 x.Show, .bool x.Modified]
  len := by rintro _ _ _ _ rfl; rfl
  one := by
    rintro _ _ _ _ rfl v hv
    simp only [List.mem_cons, List.not_mem_nil, or_false] at hv
    rcases hv with rfl | rfl | rfl | rfl
    · exact rfl
    · exact rfl
    · exact rfl
    · exact rfl
  up := by intro _ _ _ _ _ _ _ e; exact e
theorem t_api_Attr.open_ {I : Gh} {h : Heap} {cs : List Value} {x : api_Attr} (r : t_api_Attr.rep I h cs x) : cs = [.bool x.Protected, .bool x.Numeric, .int .i64 x.Show, .bool x.Modified] := r
structure api_Cell where
  Field : Bool
  Attr : api_Attr
  Char : Int
  deriving DecidableEq, Inhabited
def t_api_Cell : Ty api_Cell where
  size := 6
  rep I h cs x := cs = [.bool x.Field, .bool x.Attr.Protected, .bool x.Attr.Numeric, .int .i64 x.Attr.Show, .bool x.Attr.Modified, .int .u8 x.Char]
  len := by rintro _ _ _ _ rfl; rfl
  one := by
    rintro _ _ _ _ rfl v hv
    simp only [List.mem_cons, List.not_mem_nil, or_false] at hv
    rcases hv with rfl | rfl | rfl | rfl | rfl | rfl
    · exact rfl
    · exact rfl
    · exact rfl
    · exact rfl
    · exact rfl
    · exact rfl
  up := by intro _ _ _ _ _ _ _ e; exact e
theorem t_api_Cell.open_ {I : Gh} {h : Heap} {cs : List Value} {x : api_Cell} (r : t_api_Cell.rep I h cs x) : cs = [.bool x.Field, .bool x.Attr.Protected, .bool x.Attr.Numeric, .int .i64 x.Attr.Show, .bool x.Attr.Modified, .int .u8 x.Char] := r
structure api_Screen where
  Rows : Int
  Cols : Int
  Cells : (List api_Cell)
  Cursor : Int
  Locked : Bool
  Insert : Bool
  deriving DecidableEq, Inhabited
def t_api_Screen : Ty api_Screen where
  size := 6
  rep I h cs x := ∃ a_2, ∃ c_2, ∃ n_2, cs = [.int .i64 x.Rows, .int .i64 x.Cols, .slice a_2 n_2 c_2, .int .i64 x.Cursor, .bool x.Locked, .bool x.Insert] ∧ (Rd t_api_Cell I h a_2 c_2 x.Cells ∧ x.Cells.length = n_2)
  len := by rintro _ _ _ _ ⟨_, _, _, rfl, _⟩; rfl
  one := by
    rintro _ _ _ _ ⟨e0, e1, e2, rfl, q0⟩ v hv
    simp only [List.mem_cons, List.not_mem_nil, or_false] at hv
    rcases hv with rfl | rfl | rfl | rfl | rfl | rfl
    · exact rfl
    · exact rfl
    · exact rfl
    · exact rfl
    · exact rfl
    · exact rfl
  up := by rintro _ _ _ _ _ _ u ⟨e0, e1, e2, rfl, q0⟩; exact ⟨e0, e1, e2, rfl, ⟨q0.1.up u, q0.2⟩⟩
theorem t_api_Screen.open_ {I : Gh} {h : Heap} {cs : List Value} {x : api_Screen} (r : t_api_Screen.rep I h cs x) : ∃ a_2, ∃ c_2, ∃ n_2, cs = [.int .i64 x.Rows, .int .i64 x.Cols, .slice a_2 n_2 c_2, .int .i64 x.Cursor, .bool x.Locked, .bool x.Insert] ∧ (Rd t_api_Cell I h a_2 c_2 x.Cells ∧ x.Cells.length = n_2) := r
structure api_Pack where
  Ack : Int
  Num : Int
  Last : Bool
  Data : (List Int)
  deriving DecidableEq, Inhabited
def t_api_Pack : Ty api_Pack where
  size := 4
  rep I h cs x := ∃ a_3, ∃ c_3, ∃ n_3, cs = [.int .i64 x.Ack, .int .i64 x.Num, .bool x.Last, .slice a_3 n_3 c_3] ∧ (Rd (tInt .u8) I h a_3 c_3 x.Data ∧ x.Data.length = n_3)
  len := by rintro _ _ _ _ ⟨_, _, _, rfl, _⟩; rfl
  one := by
    rintro _ _ _ _ ⟨e0, e1, e2, rfl, q0⟩ v hv
    simp only [List.mem_cons, List.not_mem_nil, or_false] at hv
    rcases hv with rfl | rfl | rfl | rfl
    · exact rfl
    · exact rfl
    · exact rfl
    · exact rfl
  up := by rintro _ _ _ _ _ _ u ⟨e0, e1, e2, rfl, q0⟩; exact ⟨e0, e1, e2, rfl, ⟨q0.1.up u, q0.2⟩⟩
theorem t_api_Pack.open_ {I : Gh} {h : Heap} {cs : List Value} {x : api_Pack} (r : t_api_Pack.rep I h cs x) : ∃ a_3, ∃ c_3, ∃ n_3, cs = [.int .i64 x.Ack, .int .i64 x.Num, .bool x.Last, .slice a_3 n_3 c_3] ∧ (Rd (tInt .u8) I h a_3 c_3 x.Data ∧ x.Data.length = n_3) := r
structure line_Line where
  queue' : (List api_Pack)
  given' : Int
  await' : Int
  kept' : (List (Int × api_Pack))
  coming' : (List Int)
  wait' : Int
  left' : Int
  owes' : Bool
  deriving DecidableEq, Inhabited
structure api_Seen where
  Top : Int
  Bits : Int
  deriving DecidableEq, Inhabited
def t_api_Seen : Ty api_Seen where
  size := 2
  rep I h cs x := cs = [.int .i64 x.Top, .int .u64 x.Bits]
  len := by rintro _ _ _ _ rfl; rfl
  one := by
    rintro _ _ _ _ rfl v hv
    simp only [List.mem_cons, List.not_mem_nil, or_false] at hv
    rcases hv with rfl | rfl
    · exact rfl
    · exact rfl
  up := by intro _ _ _ _ _ _ _ e; exact e
theorem t_api_Seen.open_ {I : Gh} {h : Heap} {cs : List Value} {x : api_Seen} (r : t_api_Seen.rep I h cs x) : cs = [.int .i64 x.Top, .int .u64 x.Bits] := r
structure api_Peer where
  Addr : ByteArray
  Seq : Int
  deriving DecidableEq, Inhabited
def t_api_Peer : Ty api_Peer where
  size := 2
  rep I h cs x := cs = [.string x.Addr, .int .i64 x.Seq]
  len := by rintro _ _ _ _ rfl; rfl
  one := by
    rintro _ _ _ _ rfl v hv
    simp only [List.mem_cons, List.not_mem_nil, or_false] at hv
    rcases hv with rfl | rfl
    · exact rfl
    · exact rfl
  up := by intro _ _ _ _ _ _ _ e; exact e
theorem t_api_Peer.open_ {I : Gh} {h : Heap} {cs : List Value} {x : api_Peer} (r : t_api_Peer.rep I h cs x) : cs = [.string x.Addr, .int .i64 x.Seq] := r
structure roam_Gate where
  Key : (List Int)
  Dir : Int
  Seen : api_Seen
  Peer : api_Peer
  deriving DecidableEq, Inhabited
def t_roam_Gate : Ty roam_Gate where
  size := 6
  rep I h cs x := ∃ a_0, ∃ c_0, ∃ n_0, cs = [.slice a_0 n_0 c_0, .int .i64 x.Dir, .int .i64 x.Seen.Top, .int .u64 x.Seen.Bits, .string x.Peer.Addr, .int .i64 x.Peer.Seq] ∧ (Rd (tInt .u8) I h a_0 c_0 x.Key ∧ x.Key.length = n_0)
  len := by rintro _ _ _ _ ⟨_, _, _, rfl, _⟩; rfl
  one := by
    rintro _ _ _ _ ⟨e0, e1, e2, rfl, q0⟩ v hv
    simp only [List.mem_cons, List.not_mem_nil, or_false] at hv
    rcases hv with rfl | rfl | rfl | rfl | rfl | rfl
    · exact rfl
    · exact rfl
    · exact rfl
    · exact rfl
    · exact rfl
    · exact rfl
  up := by rintro _ _ _ _ _ _ u ⟨e0, e1, e2, rfl, q0⟩; exact ⟨e0, e1, e2, rfl, ⟨q0.1.up u, q0.2⟩⟩
theorem t_roam_Gate.open_ {I : Gh} {h : Heap} {cs : List Value} {x : roam_Gate} (r : t_roam_Gate.rep I h cs x) : ∃ a_0, ∃ c_0, ∃ n_0, cs = [.slice a_0 n_0 c_0, .int .i64 x.Dir, .int .i64 x.Seen.Top, .int .u64 x.Seen.Bits, .string x.Peer.Addr, .int .i64 x.Peer.Seq] ∧ (Rd (tInt .u8) I h a_0 c_0 x.Key ∧ x.Key.length = n_0) := r
structure side_side where
  key' : (List Int)
  gate' : roam_Gate
  line' : line_Line
  dir' : Int
  seq' : Int
  deriving DecidableEq, Inhabited
structure api_Key where
  Kind : Int
  Char : Int
  deriving DecidableEq, Inhabited
def t_api_Key : Ty api_Key where
  size := 2
  rep I h cs x := cs = [.int .i64 x.Kind, .int .u8 x.Char]
  len := by rintro _ _ _ _ rfl; rfl
  one := by
    rintro _ _ _ _ rfl v hv
    simp only [List.mem_cons, List.not_mem_nil, or_false] at hv
    rcases hv with rfl | rfl
    · exact rfl
    · exact rfl
  up := by intro _ _ _ _ _ _ _ e; exact e
theorem t_api_Key.open_ {I : Gh} {h : Heap} {cs : List Value} {x : api_Key} (r : t_api_Key.rep I h cs x) : cs = [.int .i64 x.Kind, .int .u8 x.Char] := r
structure api_Event where
  Host : Bool
  Key : api_Key
  Code : Int
  Bytes : (List Int)
  deriving DecidableEq, Inhabited
def t_api_Event : Ty api_Event where
  size := 5
  rep I h cs x := ∃ a_3, ∃ c_3, ∃ n_3, cs = [.bool x.Host, .int .i64 x.Key.Kind, .int .u8 x.Key.Char, .int .i64 x.Code, .slice a_3 n_3 c_3] ∧ (Rd (tInt .u8) I h a_3 c_3 x.Bytes ∧ x.Bytes.length = n_3)
  len := by rintro _ _ _ _ ⟨_, _, _, rfl, _⟩; rfl
  one := by
    rintro _ _ _ _ ⟨e0, e1, e2, rfl, q0⟩ v hv
    simp only [List.mem_cons, List.not_mem_nil, or_false] at hv
    rcases hv with rfl | rfl | rfl | rfl | rfl
    · exact rfl
    · exact rfl
    · exact rfl
    · exact rfl
    · exact rfl
  up := by rintro _ _ _ _ _ _ u ⟨e0, e1, e2, rfl, q0⟩; exact ⟨e0, e1, e2, rfl, ⟨q0.1.up u, q0.2⟩⟩
theorem t_api_Event.open_ {I : Gh} {h : Heap} {cs : List Value} {x : api_Event} (r : t_api_Event.rep I h cs x) : ∃ a_3, ∃ c_3, ∃ n_3, cs = [.bool x.Host, .int .i64 x.Key.Kind, .int .u8 x.Key.Char, .int .i64 x.Code, .slice a_3 n_3 c_3] ∧ (Rd (tInt .u8) I h a_3 c_3 x.Bytes ∧ x.Bytes.length = n_3) := r
structure side_Client where
  side' : side_side
  s' : api_Screen
  todo' : (List (List Int))
  sent' : (List (List Int))
  events' : (List api_Event)
  deriving DecidableEq, Inhabited
structure api_Entry where
  Addr : Int
  Text : (List Int)
  deriving DecidableEq, Inhabited
def t_api_Entry : Ty api_Entry where
  size := 2
  rep I h cs x := ∃ a_1, ∃ c_1, ∃ n_1, cs = [.int .i64 x.Addr, .slice a_1 n_1 c_1] ∧ (Rd (tInt .u8) I h a_1 c_1 x.Text ∧ x.Text.length = n_1)
  len := by rintro _ _ _ _ ⟨_, _, _, rfl, _⟩; rfl
  one := by
    rintro _ _ _ _ ⟨e0, e1, e2, rfl, q0⟩ v hv
    simp only [List.mem_cons, List.not_mem_nil, or_false] at hv
    rcases hv with rfl | rfl
    · exact rfl
    · exact rfl
  up := by rintro _ _ _ _ _ _ u ⟨e0, e1, e2, rfl, q0⟩; exact ⟨e0, e1, e2, rfl, ⟨q0.1.up u, q0.2⟩⟩
theorem t_api_Entry.open_ {I : Gh} {h : Heap} {cs : List Value} {x : api_Entry} (r : t_api_Entry.rep I h cs x) : ∃ a_1, ∃ c_1, ∃ n_1, cs = [.int .i64 x.Addr, .slice a_1 n_1 c_1] ∧ (Rd (tInt .u8) I h a_1 c_1 x.Text ∧ x.Text.length = n_1) := r
structure api_In where
  Aid : Int
  Cursor : Int
  Fields : (List api_Entry)
  deriving DecidableEq, Inhabited
def t_api_In : Ty api_In where
  size := 3
  rep I h cs x := ∃ a_2, ∃ c_2, ∃ n_2, cs = [.int .u8 x.Aid, .int .i64 x.Cursor, .slice a_2 n_2 c_2] ∧ (Rd t_api_Entry I h a_2 c_2 x.Fields ∧ x.Fields.length = n_2)
  len := by rintro _ _ _ _ ⟨_, _, _, rfl, _⟩; rfl
  one := by
    rintro _ _ _ _ ⟨e0, e1, e2, rfl, q0⟩ v hv
    simp only [List.mem_cons, List.not_mem_nil, or_false] at hv
    rcases hv with rfl | rfl | rfl
    · exact rfl
    · exact rfl
    · exact rfl
  up := by rintro _ _ _ _ _ _ u ⟨e0, e1, e2, rfl, q0⟩; exact ⟨e0, e1, e2, rfl, ⟨q0.1.up u, q0.2⟩⟩
theorem t_api_In.open_ {I : Gh} {h : Heap} {cs : List Value} {x : api_In} (r : t_api_In.rep I h cs x) : ∃ a_2, ∃ c_2, ∃ n_2, cs = [.int .u8 x.Aid, .int .i64 x.Cursor, .slice a_2 n_2 c_2] ∧ (Rd t_api_Entry I h a_2 c_2 x.Fields ∧ x.Fields.length = n_2) := r
structure api_Order where
  Kind : Int
  Text : (List Int)
  Attr : api_Attr
  Addr : Int
  Char : Int
  deriving DecidableEq, Inhabited
def t_api_Order : Ty api_Order where
  size := 8
  rep I h cs x := ∃ a_1, ∃ c_1, ∃ n_1, cs = [.int .i64 x.Kind, .slice a_1 n_1 c_1, .bool x.Attr.Protected, .bool x.Attr.Numeric, .int .i64 x.Attr.Show, .bool x.Attr.Modified, .int .i64 x.Addr, .int .u8 x.Char] ∧ (Rd (tInt .u8) I h a_1 c_1 x.Text ∧ x.Text.length = n_1)
  len := by rintro _ _ _ _ ⟨_, _, _, rfl, _⟩; rfl
  one := by
    rintro _ _ _ _ ⟨e0, e1, e2, rfl, q0⟩ v hv
    simp only [List.mem_cons, List.not_mem_nil, or_false] at hv
    rcases hv with rfl | rfl | rfl | rfl | rfl | rfl | rfl | rfl
    · exact rfl
    · exact rfl
    · exact rfl
    · exact rfl
    · exact rfl
    · exact rfl
    · exact rfl
    · exact rfl
  up := by rintro _ _ _ _ _ _ u ⟨e0, e1, e2, rfl, q0⟩; exact ⟨e0, e1, e2, rfl, ⟨q0.1.up u, q0.2⟩⟩
theorem t_api_Order.open_ {I : Gh} {h : Heap} {cs : List Value} {x : api_Order} (r : t_api_Order.rep I h cs x) : ∃ a_1, ∃ c_1, ∃ n_1, cs = [.int .i64 x.Kind, .slice a_1 n_1 c_1, .bool x.Attr.Protected, .bool x.Attr.Numeric, .int .i64 x.Attr.Show, .bool x.Attr.Modified, .int .i64 x.Addr, .int .u8 x.Char] ∧ (Rd (tInt .u8) I h a_1 c_1 x.Text ∧ x.Text.length = n_1) := r
structure Anon_is_n where
  is' : Bool
  n' : Int
  deriving DecidableEq, Inhabited
def t_Anon_is_n : Ty Anon_is_n where
  size := 2
  rep I h cs x := cs = [.bool x.is', .int .i64 x.n']
  len := by rintro _ _ _ _ rfl; rfl
  one := by
    rintro _ _ _ _ rfl v hv
    simp only [List.mem_cons, List.not_mem_nil, or_false] at hv
    rcases hv with rfl | rfl
    · exact rfl
    · exact rfl
  up := by intro _ _ _ _ _ _ _ e; exact e
theorem t_Anon_is_n.open_ {I : Gh} {h : Heap} {cs : List Value} {x : Anon_is_n} (r : t_Anon_is_n.rep I h cs x) : cs = [.bool x.is', .int .i64 x.n'] := r
structure api_Wcc where
  Alarm : Bool
  Unlock : Bool
  Reset : Bool
  deriving DecidableEq, Inhabited
def t_api_Wcc : Ty api_Wcc where
  size := 3
  rep I h cs x := cs = [.bool x.Alarm, .bool x.Unlock, .bool x.Reset]
  len := by rintro _ _ _ _ rfl; rfl
  one := by
    rintro _ _ _ _ rfl v hv
    simp only [List.mem_cons, List.not_mem_nil, or_false] at hv
    rcases hv with rfl | rfl | rfl
    · exact rfl
    · exact rfl
    · exact rfl
  up := by intro _ _ _ _ _ _ _ e; exact e
theorem t_api_Wcc.open_ {I : Gh} {h : Heap} {cs : List Value} {x : api_Wcc} (r : t_api_Wcc.rep I h cs x) : cs = [.bool x.Alarm, .bool x.Unlock, .bool x.Reset] := r
structure api_Out where
  Cmd : Int
  Wcc : api_Wcc
  Orders : (List api_Order)
  deriving DecidableEq, Inhabited
def t_api_Out : Ty api_Out where
  size := 5
  rep I h cs x := ∃ a_2, ∃ c_2, ∃ n_2, cs = [.int .i64 x.Cmd, .bool x.Wcc.Alarm, .bool x.Wcc.Unlock, .bool x.Wcc.Reset, .slice a_2 n_2 c_2] ∧ (Rd t_api_Order I h a_2 c_2 x.Orders ∧ x.Orders.length = n_2)
  len := by rintro _ _ _ _ ⟨_, _, _, rfl, _⟩; rfl
  one := by
    rintro _ _ _ _ ⟨e0, e1, e2, rfl, q0⟩ v hv
    simp only [List.mem_cons, List.not_mem_nil, or_false] at hv
    rcases hv with rfl | rfl | rfl | rfl | rfl
    · exact rfl
    · exact rfl
    · exact rfl
    · exact rfl
    · exact rfl
  up := by rintro _ _ _ _ _ _ u ⟨e0, e1, e2, rfl, q0⟩; exact ⟨e0, e1, e2, rfl, ⟨q0.1.up u, q0.2⟩⟩
theorem t_api_Out.open_ {I : Gh} {h : Heap} {cs : List Value} {x : api_Out} (r : t_api_Out.rep I h cs x) : ∃ a_2, ∃ c_2, ∃ n_2, cs = [.int .i64 x.Cmd, .bool x.Wcc.Alarm, .bool x.Wcc.Unlock, .bool x.Wcc.Reset, .slice a_2 n_2 c_2] ∧ (Rd t_api_Order I h a_2 c_2 x.Orders ∧ x.Orders.length = n_2) := r
structure paint_brush where
  s' : api_Screen
  at' : Int
  deriving DecidableEq, Inhabited
def t_paint_brush : Ty paint_brush where
  size := 7
  rep I h cs x := ∃ a_0_2, ∃ c_0_2, ∃ n_0_2, cs = [.int .i64 x.s'.Rows, .int .i64 x.s'.Cols, .slice a_0_2 n_0_2 c_0_2, .int .i64 x.s'.Cursor, .bool x.s'.Locked, .bool x.s'.Insert, .int .i64 x.at'] ∧ (Rd t_api_Cell I h a_0_2 c_0_2 x.s'.Cells ∧ x.s'.Cells.length = n_0_2)
  len := by rintro _ _ _ _ ⟨_, _, _, rfl, _⟩; rfl
  one := by
    rintro _ _ _ _ ⟨e0, e1, e2, rfl, q0⟩ v hv
    simp only [List.mem_cons, List.not_mem_nil, or_false] at hv
    rcases hv with rfl | rfl | rfl | rfl | rfl | rfl | rfl
    · exact rfl
    · exact rfl
    · exact rfl
    · exact rfl
    · exact rfl
    · exact rfl
    · exact rfl
  up := by rintro _ _ _ _ _ _ u ⟨e0, e1, e2, rfl, q0⟩; exact ⟨e0, e1, e2, rfl, ⟨q0.1.up u, q0.2⟩⟩
theorem t_paint_brush.open_ {I : Gh} {h : Heap} {cs : List Value} {x : paint_brush} (r : t_paint_brush.rep I h cs x) : ∃ a_0_2, ∃ c_0_2, ∃ n_0_2, cs = [.int .i64 x.s'.Rows, .int .i64 x.s'.Cols, .slice a_0_2 n_0_2 c_0_2, .int .i64 x.s'.Cursor, .bool x.s'.Locked, .bool x.s'.Insert, .int .i64 x.at'] ∧ (Rd t_api_Cell I h a_0_2 c_0_2 x.s'.Cells ∧ x.s'.Cells.length = n_0_2) := r
structure bytes_Cursor where
  b' : (List Int)
  at' : Int
  err' : GoErr
  deriving DecidableEq, Inhabited
def t_bytes_Cursor : Ty bytes_Cursor where
  size := 3
  rep I h cs x := ∃ a_0, ∃ c_0, ∃ n_0, ∃ v_2, cs = [.slice a_0 n_0 c_0, .int .i64 x.at', v_2] ∧ (Rd (tInt .u8) I h a_0 c_0 x.b' ∧ x.b'.length = n_0) ∧ ErrV I h x.err' v_2
  len := by rintro _ _ _ _ ⟨_, _, _, _, rfl, _, _⟩; rfl
  one := by
    rintro _ _ _ _ ⟨e0, e1, e2, e3, rfl, q0, q1⟩ v hv
    simp only [List.mem_cons, List.not_mem_nil, or_false] at hv
    rcases hv with rfl | rfl | rfl
    · exact rfl
    · exact rfl
    · exact q1.one
  up := by rintro _ _ _ _ _ _ u ⟨e0, e1, e2, e3, rfl, q0, q1⟩; exact ⟨e0, e1, e2, e3, rfl, ⟨q0.1.up u, q0.2⟩, q1.up u⟩
theorem t_bytes_Cursor.open_ {I : Gh} {h : Heap} {cs : List Value} {x : bytes_Cursor} (r : t_bytes_Cursor.rep I h cs x) : ∃ a_0, ∃ c_0, ∃ n_0, ∃ v_2, cs = [.slice a_0 n_0 c_0, .int .i64 x.at', v_2] ∧ (Rd (tInt .u8) I h a_0 c_0 x.b' ∧ x.b'.length = n_0) ∧ ErrV I h x.err' v_2 := r
structure hash_Sum where
  h' : (List Int)
  rest' : (List Int)
  n' : Int
  deriving DecidableEq, Inhabited
def t_hash_Sum : Ty hash_Sum where
  size := 10
  rep I h cs x := ∃ a_1, ∃ c_1, ∃ n_1, cs = [.int .u32 (at_ x.h' 0), .int .u32 (at_ x.h' 1), .int .u32 (at_ x.h' 2), .int .u32 (at_ x.h' 3), .int .u32 (at_ x.h' 4), .int .u32 (at_ x.h' 5), .int .u32 (at_ x.h' 6), .int .u32 (at_ x.h' 7), .slice a_1 n_1 c_1, .int .u64 x.n'] ∧ List.length x.h' = 8 ∧ (Rd (tInt .u8) I h a_1 c_1 x.rest' ∧ x.rest'.length = n_1)
  len := by rintro _ _ _ _ ⟨_, _, _, rfl, _, _⟩; rfl
  one := by
    rintro _ _ _ _ ⟨e0, e1, e2, rfl, q0, q1⟩ v hv
    simp only [List.mem_cons, List.not_mem_nil, or_false] at hv
    rcases hv with rfl | rfl | rfl | rfl | rfl | rfl | rfl | rfl | rfl | rfl
    · exact rfl
    · exact rfl
    · exact rfl
    · exact rfl
    · exact rfl
    · exact rfl
    · exact rfl
    · exact rfl
    · exact rfl
    · exact rfl
  up := by rintro _ _ _ _ _ _ u ⟨e0, e1, e2, rfl, q0, q1⟩; exact ⟨e0, e1, e2, rfl, q0, ⟨q1.1.up u, q1.2⟩⟩
theorem t_hash_Sum.open_ {I : Gh} {h : Heap} {cs : List Value} {x : hash_Sum} (r : t_hash_Sum.rep I h cs x) : ∃ a_1, ∃ c_1, ∃ n_1, cs = [.int .u32 (at_ x.h' 0), .int .u32 (at_ x.h' 1), .int .u32 (at_ x.h' 2), .int .u32 (at_ x.h' 3), .int .u32 (at_ x.h' 4), .int .u32 (at_ x.h' 5), .int .u32 (at_ x.h' 6), .int .u32 (at_ x.h' 7), .slice a_1 n_1 c_1, .int .u64 x.n'] ∧ List.length x.h' = 8 ∧ (Rd (tInt .u8) I h a_1 c_1 x.rest' ∧ x.rest'.length = n_1) := r
structure api_Frame where
  Dir : Int
  Seq : Int
  Body : (List Int)
  deriving DecidableEq, Inhabited
def t_api_Frame : Ty api_Frame where
  size := 3
  rep I h cs x := ∃ a_2, ∃ c_2, ∃ n_2, cs = [.int .i64 x.Dir, .int .i64 x.Seq, .slice a_2 n_2 c_2] ∧ (Rd (tInt .u8) I h a_2 c_2 x.Body ∧ x.Body.length = n_2)
  len := by rintro _ _ _ _ ⟨_, _, _, rfl, _⟩; rfl
  one := by
    rintro _ _ _ _ ⟨e0, e1, e2, rfl, q0⟩ v hv
    simp only [List.mem_cons, List.not_mem_nil, or_false] at hv
    rcases hv with rfl | rfl | rfl
    · exact rfl
    · exact rfl
    · exact rfl
  up := by rintro _ _ _ _ _ _ u ⟨e0, e1, e2, rfl, q0⟩; exact ⟨e0, e1, e2, rfl, ⟨q0.1.up u, q0.2⟩⟩
theorem t_api_Frame.open_ {I : Gh} {h : Heap} {cs : List Value} {x : api_Frame} (r : t_api_Frame.rep I h cs x) : ∃ a_2, ∃ c_2, ∃ n_2, cs = [.int .i64 x.Dir, .int .i64 x.Seq, .slice a_2 n_2 c_2] ∧ (Rd (tInt .u8) I h a_2 c_2 x.Body ∧ x.Body.length = n_2) := r
structure side_Host where
  side' : side_side
  got' : (List (List Int))
  deriving DecidableEq, Inhabited
structure shutterref25_Terminal where
  S : api_Screen
  Sent : (List (List Int))
  deriving DecidableEq, Inhabited
def t_shutterref25_Terminal : Ty shutterref25_Terminal where
  size := 7
  rep I h cs x := ∃ a_0_2, ∃ c_0_2, ∃ n_0_2, ∃ a_1, ∃ c_1, ∃ n_1, cs = [.int .i64 x.S.Rows, .int .i64 x.S.Cols, .slice a_0_2 n_0_2 c_0_2, .int .i64 x.S.Cursor, .bool x.S.Locked, .bool x.S.Insert, .slice a_1 n_1 c_1] ∧ (Rd t_api_Cell I h a_0_2 c_0_2 x.S.Cells ∧ x.S.Cells.length = n_0_2) ∧ (Rd (tSl (tInt .u8)) I h a_1 c_1 x.Sent ∧ x.Sent.length = n_1)
  len := by rintro _ _ _ _ ⟨_, _, _, _, _, _, rfl, _, _⟩; rfl
  one := by
    rintro _ _ _ _ ⟨e0, e1, e2, e3, e4, e5, rfl, q0, q1⟩ v hv
    simp only [List.mem_cons, List.not_mem_nil, or_false] at hv
    rcases hv with rfl | rfl | rfl | rfl | rfl | rfl | rfl
    · exact rfl
    · exact rfl
    · exact rfl
    · exact rfl
    · exact rfl
    · exact rfl
    · exact rfl
  up := by rintro _ _ _ _ _ _ u ⟨e0, e1, e2, e3, e4, e5, rfl, q0, q1⟩; exact ⟨e0, e1, e2, e3, e4, e5, rfl, ⟨q0.1.up u, q0.2⟩, ⟨q1.1.up u, q1.2⟩⟩
theorem t_shutterref25_Terminal.open_ {I : Gh} {h : Heap} {cs : List Value} {x : shutterref25_Terminal} (r : t_shutterref25_Terminal.rep I h cs x) : ∃ a_0_2, ∃ c_0_2, ∃ n_0_2, ∃ a_1, ∃ c_1, ∃ n_1, cs = [.int .i64 x.S.Rows, .int .i64 x.S.Cols, .slice a_0_2 n_0_2 c_0_2, .int .i64 x.S.Cursor, .bool x.S.Locked, .bool x.S.Insert, .slice a_1 n_1 c_1] ∧ (Rd t_api_Cell I h a_0_2 c_0_2 x.S.Cells ∧ x.S.Cells.length = n_0_2) ∧ (Rd (tSl (tInt .u8)) I h a_1 c_1 x.Sent ∧ x.Sent.length = n_1) := r
def api_Code.m (x0 : GoErr) : Option Int := some (codeOf x0)
theorem api_Code.calls {B I : Gh} {h : Heap} {x0 : GoErr} {v1 : Value} {r : Int} (H : api_Code.m x0 = some r) : Fc Tryz.prog 21 #[v1] [rE .b v1 x0, rG] B I h (fun v L => v = .int .i64 r ∧ L = []) :=
  Code_fc (Option.some.inj H)
def grid_New.m (x0 : Int) (x1 : Int) : Option (api_Screen × GoErr) :=
  (if x0 < 1 then (some ((⟨0, 0, [], 0, false, false⟩ : api_Screen), (GoErr.no 1))) else (if x1 < 1 then (some ((⟨0, 0, [], 0, false, false⟩ : api_Screen), (GoErr.no 1))) else (if x0 > 16383 then (some ((⟨0, 0, [], 0, false, false⟩ : api_Screen), (GoErr.no 1))) else (if x0 ≠ 0 then (if x1 > (w64 (Int.tdiv 16383 x0)) then (some ((⟨0, 0, [], 0, false, false⟩ : api_Screen), (GoErr.no 1))) else ((mk (w64 (x0 * x1)) (⟨false, (⟨false, false, 0, false⟩ : api_Attr), 0⟩ : api_Cell)).bind fun l27 => (some ((⟨x0, x1, l27, 0, false, false⟩ : api_Screen), GoErr.nil)))) else none))))
theorem grid_New.calls {B I : Gh} {h : Heap} {x0 : Int} {x1 : Int} {r : (api_Screen × GoErr)} (H : grid_New.m x0 x1 = some r)  :
    Fc Tryz.prog 76 #[iv x0, iv x1] [] B I h (fun v L => ∃ a31 p32 n33 v35, v = .tuple #[.agg #[iv r.1.Rows, iv r.1.Cols, .slice a31 n33 p32, iv r.1.Cursor, .bool r.1.Locked, .bool r.1.Insert], v35] ∧ L = [rO t_api_Cell .i a31 p32 n33 r.1.Cells, rE .i v35 r.2]) := by
 refine fc_of fun E hs => ?_
 unfold grid_New.m at H
 refine fn_of2 (rs := [.cell 4 56, .tmp 5]) (N := 31) Tryz.func76 rfl rfl rfl rfl ?_
 refine st 2 [] (k_op (nA hs [iv 0, iv 0, .slice none 0 0, iv 0, .bool false, .bool false] (.agg #[iv 0, iv 0, .slice none 0 0, iv 0, .bool false, .bool false]) ?_))
 intro b21 h hs
 refine st 6 [] (k_ite H (fun c22 H => ?_) (fun c22 H => ?_))
 ·refine st 20 [true] (k_op (sN0 hs [iv 0, iv 0, .slice none 0 0, iv 0, .bool false, .bool false] (ones_of rfl) ?_))
  intro h hs
  obtain rfl := si H
  exact st 2 [] (k_retQ ⟨[.agg #[iv 0, iv 0, .slice none 0 0, iv 0, .bool false, .bool false], .iface 137 (iv 1)], (.cons (.agg (by kernel_rfl) (by kernel_rfl) (by kernel_rfl) ((hs.bl d0).seg_ 0 6 (Nat.le_of_ble_eq_true rfl))) (.cons (.tmp (by kernel_rfl)) .nil)), I, _, ⟨none, 0, 0, (.iface 137 (iv 1)), rfl, rfl⟩, hs.pk (.f imON (.f imEC .n))⟩)
 refine st 2 [] (k_ite H (fun c23 H => ?_) (fun c23 H => ?_))
 ·refine st 17 [true] (k_op (sN0 hs [iv 0, iv 0, .slice none 0 0, iv 0, .bool false, .bool false] (ones_of rfl) ?_))
  intro h hs
  obtain rfl := si H
  exact st 2 [] (k_retQ ⟨[.agg #[iv 0, iv 0, .slice none 0 0, iv 0, .bool false, .bool false], .iface 137 (iv 1)], (.cons (.agg (by kernel_rfl) (by kernel_rfl) (by kernel_rfl) ((hs.bl d0).seg_ 0 6 (Nat.le_of_ble_eq_true rfl))) (.cons (.tmp (by kernel_rfl)) .nil)), I, _, ⟨none, 0, 0, (.iface 137 (iv 1)), rfl, rfl⟩, hs.pk (.f imON (.f imEC .n))⟩)
 refine st 3 [] (k_ite H (fun c24 H => ?_) (fun c24 H => ?_))
 ·refine st 13 [true] (k_op (sN0 hs [iv 0, iv 0, .slice none 0 0, iv 0, .bool false, .bool false] (ones_of rfl) ?_))
  intro h hs
  obtain rfl := si H
  exact st 2 [] (k_retQ ⟨[.agg #[iv 0, iv 0, .slice none 0 0, iv 0, .bool false, .bool false], .iface 137 (iv 1)], (.cons (.agg (by kernel_rfl) (by kernel_rfl) (by kernel_rfl) ((hs.bl d0).seg_ 0 6 (Nat.le_of_ble_eq_true rfl))) (.cons (.tmp (by kernel_rfl)) .nil)), I, _, ⟨none, 0, 0, (.iface 137 (iv 1)), rfl, rfl⟩, hs.pk (.f imON (.f imEC .n))⟩)
 obtain ⟨c25, H⟩ := guard_pos H
 refine st 4 [] (k_val (iv (w64 (Int.tdiv 16383 x0))) (pr_quo (k := .i64) (a := 16383) (b := x0) (by kernel_rfl) (by kernel_rfl) c25) ?_)
 refine k_ite H (fun c26 H => ?_) (fun c26 H => ?_)
 ·refine st 7 [true] (k_op (sN0 hs [iv 0, iv 0, .slice none 0 0, iv 0, .bool false, .bool false] (ones_of rfl) ?_))
  intro h hs
  obtain rfl := si H
  exact st 2 [] (k_retQ ⟨[.agg #[iv 0, iv 0, .slice none 0 0, iv 0, .bool false, .bool false], .iface 137 (iv 1)], (.cons (.agg (by kernel_rfl) (by kernel_rfl) (by kernel_rfl) ((hs.bl d0).seg_ 0 6 (Nat.le_of_ble_eq_true rfl))) (.cons (.tmp (by kernel_rfl)) .nil)), I, _, ⟨none, 0, 0, (.iface 137 (iv 1)), rfl, rfl⟩, hs.pk (.f imON (.f imEC .n))⟩)
 obtain ⟨l27, m28, H⟩ := bind_some H
 refine st 11 [false] (k_op (nM (e := 89) (kl := .i64) (kc := .i64) (bytes := 40) hs t_api_Cell (⟨false, (⟨false, false, 0, false⟩ : api_Attr), 0⟩ : api_Cell) (.agg #[.bool false, .bool false, .bool false, iv 0, .bool false, .int .u8 0]) m28 (fun _ _ => rfl) ?_))
 intro b29 h hs
 refine st 1 [] (k_op (sN0 (hs.f d1) [iv x0, iv x1, .slice (sa b29) l27.length l27.length, iv 0, .bool false, .bool false] (ones_of rfl) ?_))
 intro h hs
 obtain rfl := si H
 exact st 2 [] (k_retQ ⟨[.agg #[iv x0, iv x1, .slice (sa b29) l27.length l27.length, iv 0, .bool false, .bool false], .nilIface], (.cons (.agg (by kernel_rfl) (by kernel_rfl) (by kernel_rfl) ((hs.bl d0).seg_ 0 6 (Nat.le_of_ble_eq_true rfl))) (.cons (.tmp (by kernel_rfl)) .nil)), I, _, ⟨(sa b29), l27.length, l27.length, (.nilIface), rfl, rfl⟩, hs.pk (.c d1 (.f imEN .n))⟩)
def grid_Size.m (x0 : api_Screen) : Option Int :=
  (some (x0.Cells.length : Int))
theorem grid_Size.calls {B I : Gh} {h : Heap} {x0 : api_Screen} {a21 : Option Addr} {p22 : Nat} {n23 : Nat} {r : Int} (H : grid_Size.m x0 = some r)  :
    Fc Tryz.prog 77 #[.agg #[iv x0.Rows, iv x0.Cols, .slice a21 n23 p22, iv x0.Cursor, .bool x0.Locked, .bool x0.Insert]] [rR t_api_Cell .b a21 p22 n23 x0.Cells] B I h (fun v L => v = iv r ∧ L = []) := by
 refine fc_of fun E hs => ?_
 unfold grid_Size.m at H
 cases hs.nR d0
 refine fn_of (rs := [.tmp 2]) (N := 6) Tryz.func77 rfl rfl rfl rfl ?_
 refine st 2 [] (k_op (nB hs [iv x0.Rows, iv x0.Cols, .slice a21 x0.Cells.length p22, iv x0.Cursor, .bool x0.Locked, .bool x0.Insert] ?_))
 intro b25 h hs
 refine st 5 [] (k_op (lB (hs.bl d0) 2 rfl ?_))
 obtain rfl := si H
 exact st 3 [] (k_retQ ⟨_, by kernel_rfl, I, _, ⟨rfl, rfl⟩, hs.pk .n⟩)
def line_New.m  : Option line_Line :=
  (some (⟨[], 0, 1, [], [], 1, 0, false⟩ : line_Line))
theorem line_New.calls {B I : Gh} {h : Heap}  {r : line_Line} (H : line_New.m  = some r)  :
    Fc Tryz.prog 128 #[] [] B I h (fun v L => ∃ b23 a24 p25 n26 b28 a29 p30 n31, v = pv b23 ∧ L = [rB b23 [.slice a24 n26 p25, iv r.given', iv r.await', .map (some b28), .slice a29 n31 p30, iv r.wait', iv r.left', .bool r.owes'] 239, rO t_api_Pack .i a24 p25 n26 r.queue', rM t_api_Pack b28 r.kept', rO (tInt .u8) .i a29 p30 n31 r.coming']) := by
 refine fc_of fun E hs => ?_
 unfold line_New.m at H
 refine fn_of (rs := [.tmp 0]) (N := 4) Tryz.func128 rfl rfl rfl rfl ?_
 refine st 6 [] (k_op (mN t_api_Pack hs ?_))
 intro b21 h hs
 refine st 1 [] (k_op (nB hs [.slice none 0 0, iv 0, iv 1, .map (some b21), .slice none 0 0, iv 1, iv 0, .bool false] ?_))
 intro b22 h hs
 obtain rfl := si H
 exact st 2 [] (k_retQ ⟨_, by kernel_rfl, I, _, ⟨b22, none, 0, 0, b21, none, 0, 0, rfl, rfl⟩, hs.pk (.c d0 (.f imON (.c d0 (.f imON .n))))⟩)
def slices_Clone_bytes.m (x0 : (List Int)) : Option (List Int) :=
  ((app [] x0).bind fun l29 => (some l29))
theorem slices_Clone_bytes.calls {B I : Gh} {h : Heap} {x0 : (List Int)} {a21 : Option Addr} {p22 : Nat} {n23 : Nat} {r : (List Int)} (H : slices_Clone_bytes.m x0 = some r)  :
    Fc Tryz.prog 83 #[.slice a21 n23 p22] [rR (tInt .u8) .b a21 p22 n23 x0] B I h (fun v L => ∃ a34 p35 n36, v = .slice a34 n36 p35 ∧ L = [rO (tInt .u8) .i a34 p35 n36 r]) := by
 refine fc_of fun E hs => ?_
 unfold slices_Clone_bytes.m at H
 cases hs.nR d0
 refine fn_of (rs := [.tmp 2]) (N := 8) Tryz.func83 rfl rfl rfl rfl ?_
 rcases a21 with _ | ad25
 ·have e26 := ((hs.sR d0).toSl.nil rfl).1
  replace H : (some []) = some r := by simpa [app, Lim, e26] using H
  obtain rfl := si H
  exact st 15 [true] (k_retQ ⟨_, by kernel_rfl, I, _, ⟨none, 0, 0, rfl, rfl⟩, hs.pk (.f imON .n)⟩)
 refine st 14 [false] (k_op (nS (e := 5) hs .i (tInt .u8) ([] : List Int) [] 1 (.int .u8 0) (Reps.int (I := (Cl.G .i E.B I)) (k := .u8) (l := [])) ?_))
 intro b27 h hs
 obtain ⟨l29, m30, H⟩ := bind_some H
 refine st 1 [] (k_op (aO (e := 5) (bytes := 1) hs ((hs.sR d1).flat flat_int) m30 ?_))
 intro a31 p32 h hs
 obtain rfl := si H
 exact st 2 [] (k_retQ ⟨_, by kernel_rfl, I, _, ⟨a31, p32, l29.length, rfl, rfl⟩, hs.pk (.c d0 .n)⟩)
def side_made.m (x0 : (List Int)) (x1 : Int) : Option side_side :=
  ((slices_Clone_bytes.m x0).bind fun t26 => ((line_New.m ).bind fun t31 => (some (⟨t26, (⟨t26, (w64 (1 - x1)), (⟨0, 0⟩ : api_Seen), (⟨(⟨#[]⟩ : ByteArray), 0⟩ : api_Peer)⟩ : roam_Gate), t31, x1, 0⟩ : side_side))))
theorem side_made.calls {B I : Gh} {h : Heap} {x0 : (List Int)} {x1 : Int} {a21 : Option Addr} {p22 : Nat} {n23 : Nat} {r : side_side} (H : side_made.m x0 x1 = some r)  :
    Fc Tryz.prog 78 #[.slice a21 n23 p22, iv x1] [rR (tInt .u8) .b a21 p22 n23 x0] B I h (fun v L => ∃ a43 p44 n45 a47 p48 n49 b51 a52 p53 n54 b56 a57 p58 n59, v = .agg #[.slice a43 n45 p44, .slice a47 n49 p48, iv r.gate'.Dir, iv r.gate'.Seen.Top, .int .u64 r.gate'.Seen.Bits, .string r.gate'.Peer.Addr, iv r.gate'.Peer.Seq, pv b51, iv r.dir', iv r.seq'] ∧ L = [rR (tInt .u8) .i a43 p44 n45 r.key', rR (tInt .u8) .i a47 p48 n49 r.gate'.Key, rB b51 [.slice a52 n54 p53, iv r.line'.given', iv r.line'.await', .map (some b56), .slice a57 n59 p58, iv r.line'.wait', iv r.line'.left', .bool r.line'.owes'] 239, rO t_api_Pack .i a52 p53 n54 r.line'.queue', rM t_api_Pack b56 r.line'.kept', rO (tInt .u8) .i a57 p58 n59 r.line'.coming']) := by
 refine fc_of fun E hs => ?_
 unfold side_made.m at H
 cases hs.nR d0
 refine fn_of2 (rs := [.cell 4 76]) (N := 16) Tryz.func78 rfl rfl rfl rfl ?_
 refine st 2 [] (k_op (nA hs [.slice none 0 0, .slice none 0 0, iv 0, iv 0, .int .u64 0, .string (⟨#[]⟩ : ByteArray), iv 0, .pointer none, iv 0, iv 0] (.agg #[.slice none 0 0, .slice none 0 0, iv 0, iv 0, .int .u64 0, .string (⟨#[]⟩ : ByteArray), iv 0, .pointer none, iv 0, iv 0]) ?_))
 intro b25 h hs
 obtain ⟨hk, bk⟩ := hs.call tk0 (.c (qB d1) .n)
 refine st 4 [] (k_call H (fun _ m => slices_Clone_bytes.calls m hk) ?_)
 rintro t26 _ h H ⟨I, _, ⟨a27, p28, n29, rfl, rfl⟩, hk⟩
 replace hs := bk hk ct1 rfl
 cases hs.nO d0
 obtain ⟨hk, bk⟩ := hs.call tk0 .n
 refine st 9 [] (k_call H (fun _ m => line_New.calls m hk) ?_)
 rintro t31 _ h H ⟨I, _, ⟨b32, a33, p34, n35, b37, a38, p39, n40, rfl, rfl⟩, hk⟩
 replace hs := bk hk ct4 rfl
 cases hs.nO d1
 cases hs.nO d3
 refine st 2 [] (k_op (sN0 (hs.f d5) [.slice a27 t26.length p28, .slice a27 t26.length p28, iv (w64 (1 - x1)), iv 0, .int .u64 0, .string (⟨#[]⟩ : ByteArray), iv 0, pv b32, iv x1, iv 0] (ones_of rfl) ?_))
 intro h hs
 refine st 1 [] ?_
 obtain ⟨I, hs⟩ := (hs.f d5).fO
 replace hs := hs.dup d0 (fun _ x => x)
 obtain rfl := si H
 exact k_retQ ⟨[.agg #[.slice a27 t26.length p28, .slice a27 t26.length p28, iv (w64 (1 - x1)), iv 0, .int .u64 0, .string (⟨#[]⟩ : ByteArray), iv 0, pv b32, iv x1, iv 0]], (.cons (.agg (by kernel_rfl) (by kernel_rfl) (by kernel_rfl) ((hs.bl d2).seg_ 0 10 (Nat.le_of_ble_eq_true rfl))) .nil), I, _, ⟨a27, p28, t26.length, a27, p28, t26.length, b32, a33, p34, t31.queue'.length, b37, a38, p39, t31.coming'.length, rfl, rfl⟩, hs.pk (.c d1 (.c d0 (.c d1 (.c d1 (.c d1 (.c d1 .n))))))⟩
def side_NewClient.m (x0 : (List Int)) (x1 : Int) (x2 : Int) : Option ((Option side_Client) × GoErr) :=
  ((grid_New.m x1 x2).bind fun t25 => (if t25.2 = GoErr.nil then ((grid_Size.m t25.1).bind fun t36 => (if t36 > 2000 then (some (none, (GoErr.no 1))) else ((side_made.m x0 0).bind fun t38 => (some ((some (⟨t38, t25.1, [], [], []⟩ : side_Client)), GoErr.nil))))) else (some (none, (GoErr.no 1)))))
theorem side_NewClient.calls {B I : Gh} {h : Heap} {x0 : (List Int)} {x1 : Int} {x2 : Int} {a21 : Option Addr} {p22 : Nat} {n23 : Nat} {r : ((Option side_Client) × GoErr)} (H : side_NewClient.m x0 x1 x2 = some r)  :
    Fc Tryz.prog 22 #[.slice a21 n23 p22, iv x1, iv x2] [rR (tInt .u8) .b a21 p22 n23 x0] B I h (fun v L => (r.1 = none ∧ ∃ v58, v = .tuple #[.pointer none, v58] ∧ L = [rE .i v58 r.2]) ∨ (∃ (y : side_Client), r.1 = some y ∧ ∃ b60 a61 p62 n63 a65 p66 n67 b69 a70 p71 n72 b74 a75 p76 n77 a79 p80 n81 a83 p84 n85 a87 p88 n89 a91 p92 n93 v95, v = .tuple #[pv b60, v95] ∧ L = [rB b60 [.slice a61 n63 p62, .slice a65 n67 p66, iv y.side'.gate'.Dir, iv y.side'.gate'.Seen.Top, .int .u64 y.side'.gate'.Seen.Bits, .string y.side'.gate'.Peer.Addr, iv y.side'.gate'.Peer.Seq, pv b69, iv y.side'.dir', iv y.side'.seq', iv y.s'.Rows, iv y.s'.Cols, .slice a79 n81 p80, iv y.s'.Cursor, .bool y.s'.Locked, .bool y.s'.Insert, .slice a83 n85 p84, .slice a87 n89 p88, .slice a91 n93 p92] 78, rR (tInt .u8) .i a61 p62 n63 y.side'.key', rR (tInt .u8) .i a65 p66 n67 y.side'.gate'.Key, rB b69 [.slice a70 n72 p71, iv y.side'.line'.given', iv y.side'.line'.await', .map (some b74), .slice a75 n77 p76, iv y.side'.line'.wait', iv y.side'.line'.left', .bool y.side'.line'.owes'] 239, rO t_api_Pack .i a70 p71 n72 y.side'.line'.queue', rM t_api_Pack b74 y.side'.line'.kept', rO (tInt .u8) .i a75 p76 n77 y.side'.line'.coming', rR t_api_Cell .i a79 p80 n81 y.s'.Cells, rO (tSl (tInt .u8)) .i a83 p84 n85 y.todo', rO (tSl (tInt .u8)) .i a87 p88 n89 y.sent', rO t_api_Event .i a91 p92 n93 y.events', rE .i v95 r.2])) := by
 refine fc_of fun E hs => ?_
 unfold side_NewClient.m at H
 cases hs.nR d0
 refine fn_of (rs := [.tmp 6, .tmp 7]) (N := 29) Tryz.func22 rfl rfl rfl rfl ?_
 obtain ⟨hk, bk⟩ := hs.call tk0 .n
 refine st 9 [] (k_call H (fun _ m => grid_New.calls m hk) ?_)
 rintro t25 _ h H ⟨I, _, ⟨a26, p27, n28, v30, rfl, rfl⟩, hk⟩
 replace hs := bk hk ct2 rfl
 cases hs.nO d0
 refine st 3 [] (k_op (nA hs [iv 0, iv 0, .slice none 0 0, iv 0, .bool false, .bool false] (.agg #[iv 0, iv 0, .slice none 0 0, iv 0, .bool false, .bool false]) ?_))
 intro b32 h hs
 refine k_op (sN0 hs [iv t25.1.Rows, iv t25.1.Cols, .slice a26 t25.1.Cells.length p27, iv t25.1.Cursor, .bool t25.1.Locked, .bool t25.1.Insert] (ones_of rfl) ?_)
 intro h hs
 rcases (hs.er d2).cases with ⟨c33, rfl⟩ | ⟨c33, t34, u35, rfl⟩
 rotate_left
 ·rw [if_neg c33] at H
  obtain rfl := si H
  exact st 20 [true] (k_retQ ⟨_, by kernel_rfl, I, _, (.inl ⟨rfl, ⟨(.iface 137 (iv 1)), rfl, rfl⟩⟩), hs.pk (.f imEC .n)⟩)
 rw [if_pos c33] at H
 refine st 8 [] (k_op (lN (hs.bl d0) 0 6 ?_))
 obtain ⟨hk, bk⟩ := hs.call tk0 (.c (qO d1) .n)
 refine k_call H (fun _ m => grid_Size.calls m hk) ?_
 rintro t36 _ h H ⟨I, _, ⟨rfl, rfl⟩, hk⟩
 replace hs := bk hk ct0 rfl
 refine k_ite H (fun c37 H => ?_) (fun c37 H => ?_)
 ·obtain rfl := si H
  exact st 9 [true] (k_retQ ⟨_, by kernel_rfl, I, _, (.inl ⟨rfl, ⟨(.iface 137 (iv 1)), rfl, rfl⟩⟩), hs.pk (.f imEC .n)⟩)
 refine st 5 [false] ?_
 obtain ⟨hs0, bk0⟩ := hs.call tk0 (.c (qL d0) (.c (qB d3) .n))
 have hs := hs0
 refine k_regD hs0 7 ?_
 refine aRun [0] 6 hs.keep ?_
 refine aG 2 rfl hs.keep (lls hs0 d0 0 6 rfl) (nmL hs0 d0) ?_
 obtain ⟨hk, bk⟩ := hs.call tk0 (.c (qB d1) .n)
 refine aO1 1 rfl (o_call H (fun _ m => side_made.calls m hk) ?_)
 rintro t38 _ h H ⟨I, _, ⟨a39, p40, n41, a43, p44, n45, b47, a48, p49, n50, b52, a53, p54, n55, rfl, rfl⟩, hk⟩
 replace hs := bk hk ct6 rfl
 cases hs.nR d0
 cases hs.nR d1
 cases hs.nO d3
 cases hs.nO d5
 refine ⟨hs.keep, ?_⟩
 refine aRun [3] 3 hs.keep ?_
 refine aO1 4 rfl (nB hs [.slice a39 t38.key'.length p40, .slice a43 t38.gate'.Key.length p44, iv t38.gate'.Dir, iv t38.gate'.Seen.Top, .int .u64 t38.gate'.Seen.Bits, .string t38.gate'.Peer.Addr, iv t38.gate'.Peer.Seq, pv b47, iv t38.dir', iv t38.seq', iv t25.1.Rows, iv t25.1.Cols, .slice a26 t25.1.Cells.length p27, iv t25.1.Cursor, .bool t25.1.Locked, .bool t25.1.Insert, .slice none 0 0, .slice none 0 0, .slice none 0 0] ?_)
 intro b57 h hs
 refine ⟨hs.keep, ?_⟩
 refine aRun [5, 6] 0 hs.keep ?_
 replace hs := hs.pk (.c d0 (.c d0 (.c d0 (.c d0 (.c d0 (.c d0 (.c d0 .n)))))))
 replace hs := bk0 hs (.s ct6) rfl
 refine aEnd ?_
 obtain rfl := si H
 obtain ⟨I, hs⟩ := (hs.f d8).fO
 exact k_retQ ⟨_, by kernel_rfl, I, _, (.inr ⟨_, rfl, ⟨b57, a39, p40, t38.key'.length, a43, p44, t38.gate'.Key.length, b47, a48, p49, t38.line'.queue'.length, b52, a53, p54, t38.line'.coming'.length, a26, p27, t25.1.Cells.length, none, 0, 0, none, 0, 0, none, 0, 0, (.nilIface), rfl, rfl⟩⟩), hs.pk (.c d1 (.c d1 (.c d1 (.c d1 (.c d1 (.c d1 (.c d1 (.c d0 (.f imON (.f imON (.f imON (.f imEN .n))))))))))))⟩
def slices_Clone_api_Cell.m (x0 : (List api_Cell)) : Option (List api_Cell) :=
  ((app [] x0).bind fun l29 => (some l29))
theorem slices_Clone_api_Cell.calls {B I : Gh} {h : Heap} {x0 : (List api_Cell)} {a21 : Option Addr} {p22 : Nat} {n23 : Nat} {r : (List api_Cell)} (H : slices_Clone_api_Cell.m x0 = some r)  :
    Fc Tryz.prog 129 #[.slice a21 n23 p22] [rR t_api_Cell .b a21 p22 n23 x0] B I h (fun v L => ∃ a34 p35 n36, v = .slice a34 n36 p35 ∧ L = [rO t_api_Cell .i a34 p35 n36 r]) := by
 refine fc_of fun E hs => ?_
 unfold slices_Clone_api_Cell.m at H
 cases hs.nR d0
 refine fn_of (rs := [.tmp 2]) (N := 8) Tryz.func129 rfl rfl rfl rfl ?_
 rcases a21 with _ | ad25
 ·have e26 := ((hs.sR d0).toSl.nil rfl).1
  replace H : (some []) = some r := by simpa [app, Lim, e26] using H
  obtain rfl := si H
  exact st 15 [true] (k_retQ ⟨_, by kernel_rfl, I, _, ⟨none, 0, 0, rfl, rfl⟩, hs.pk (.f imON .n)⟩)
 refine st 14 [false] (k_op (nS (e := 89) hs .i t_api_Cell ([] : List api_Cell) [] 6 (.agg #[.bool false, .bool false, .bool false, iv 0, .bool false, .int .u8 0]) (.nil : Reps t_api_Cell (Cl.G .i E.B I) h [] []) ?_))
 intro b27 h hs
 obtain ⟨l29, m30, H⟩ := bind_some H
 refine st 1 [] (k_op (aO (e := 89) (bytes := 40) hs ((hs.sR d1).flat (fun r => r)) m30 ?_))
 intro a31 p32 h hs
 obtain rfl := si H
 exact st 2 [] (k_retQ ⟨_, by kernel_rfl, I, _, ⟨a31, p32, l29.length, rfl, rfl⟩, hs.pk (.c d0 .n)⟩)
def grid_Copy.m (x0 : api_Screen) : Option api_Screen :=
  ((slices_Clone_api_Cell.m x0.Cells).bind fun t27 => (some (⟨x0.Rows, x0.Cols, t27, x0.Cursor, x0.Locked, x0.Insert⟩ : api_Screen)))
theorem grid_Copy.calls {B I : Gh} {h : Heap} {x0 : api_Screen} {a21 : Option Addr} {p22 : Nat} {n23 : Nat} {r : api_Screen} (H : grid_Copy.m x0 = some r)  :
    Fc Tryz.prog 80 #[.agg #[iv x0.Rows, iv x0.Cols, .slice a21 n23 p22, iv x0.Cursor, .bool x0.Locked, .bool x0.Insert]] [rR t_api_Cell .b a21 p22 n23 x0.Cells] B I h (fun v L => ∃ a32 p33 n34, v = .agg #[iv r.Rows, iv r.Cols, .slice a32 n34 p33, iv r.Cursor, .bool r.Locked, .bool r.Insert] ∧ L = [rO t_api_Cell .i a32 p33 n34 r.Cells]) := by
 refine fc_of fun E hs => ?_
 unfold grid_Copy.m at H
 cases hs.nR d0
 refine fn_of2 (rs := [.cell 2 56]) (N := 8) Tryz.func80 rfl rfl rfl rfl ?_
 refine st 2 [] (k_op (nB hs [iv x0.Rows, iv x0.Cols, .slice a21 x0.Cells.length p22, iv x0.Cursor, .bool x0.Locked, .bool x0.Insert] ?_))
 intro b25 h hs
 refine k_op (nA hs [iv 0, iv 0, .slice none 0 0, iv 0, .bool false, .bool false] (.agg #[iv 0, iv 0, .slice none 0 0, iv 0, .bool false, .bool false]) ?_)
 intro b26 h hs
 refine st 4 [] (k_op (lB (hs.bl d1) 2 rfl ?_))
 obtain ⟨hk, bk⟩ := hs.call tk0 (.c (qB d2) .n)
 refine k_call H (fun _ m => slices_Clone_api_Cell.calls m hk) ?_
 rintro t27 _ h H ⟨I, _, ⟨a28, p29, n30, rfl, rfl⟩, hk⟩
 replace hs := bk hk ct1 rfl
 cases hs.nO d0
 refine st 1 [] (k_op (sB (v := .slice a28 t27.length p29) (hs.f d2) cw2 ?_))
 intro h hs
 refine st 3 [] (k_op (lN (hs.bl d0) 0 6 ?_))
 refine k_op (sN0 (hs.f d2) [iv x0.Rows, iv x0.Cols, .slice a28 t27.length p29, iv x0.Cursor, .bool x0.Locked, .bool x0.Insert] (ones_of rfl) ?_)
 intro h hs
 obtain rfl := si H
 exact st 1 [] (k_retQ ⟨[.agg #[iv x0.Rows, iv x0.Cols, .slice a28 t27.length p29, iv x0.Cursor, .bool x0.Locked, .bool x0.Insert]], (.cons (.agg (by kernel_rfl) (by kernel_rfl) (by kernel_rfl) ((hs.bl d0).seg_ 0 6 (Nat.le_of_ble_eq_true rfl))) .nil), I, _, ⟨a28, p29, t27.length, rfl, rfl⟩, hs.pk (.c d2 .n)⟩)
def attr_Bare.m (x0 : Int) : Option Bool :=
  (if x0 = 108 then (some true) else (if x0 = 110 then (some true) else (if x0 = 107 then (some true) else (if x0 = 109 then (some true) else (some false)))))
theorem attr_Bare.calls {x0 : Int} {h : Heap} {r : Bool} (H : attr_Bare.m x0 = some r)   :
    Ret Tryz.prog 65 #[.int .u8 x0] h (fun v h' => .bool r = v ∧ h' = h) := by
 unfold attr_Bare.m at H
 refine fn_of (rs := [.tmp 2]) (N := 10) Tryz.func65 rfl rfl rfl rfl ?_
 refine st 18 [] (k_ite H (fun c21 H => ?_) (fun c21 H => ?_))
 ·obtain rfl := si H
  exact st 12 [true, true] (k_retQ ⟨_, by kernel_rfl, rfl, rfl⟩)
 refine st 5 [false] (k_ite H (fun c22 H => ?_) (fun c22 H => ?_))
 ·obtain rfl := si H
  exact st 12 [true, true] (k_retQ ⟨_, by kernel_rfl, rfl, rfl⟩)
 refine st 4 [false] (k_ite H (fun c23 H => ?_) (fun c23 H => ?_))
 ·obtain rfl := si H
  exact st 10 [true] (k_retQ ⟨_, by kernel_rfl, rfl, rfl⟩)
 refine st 6 [false] (k_ite H (fun c24 H => ?_) (fun c24 H => ?_))
 ·obtain rfl := si H
  exact st 9 [true] (k_retQ ⟨_, by kernel_rfl, rfl, rfl⟩)
 obtain rfl := si H
 exact st 9 [false] (k_retQ ⟨_, by kernel_rfl, rfl, rfl⟩)
def attr_Aid.m (x0 : Int) : Option Bool :=
  ((attr_Bare.m x0).bind fun t21 => bif t21 then (some true) else (if x0 = 125 then (some true) else (if x0 ≥ 241 then (if x0 ≤ 249 then (some true) else (if x0 ≥ 122 then (some (decide (x0 ≤ 124))) else (some false))) else (if x0 ≥ 122 then (some (decide (x0 ≤ 124))) else (some false)))))
theorem attr_Aid.calls {x0 : Int} {h : Heap} {r : Bool} (H : attr_Aid.m x0 = some r)   :
    Ret Tryz.prog 68 #[.int .u8 x0] h (fun v h' => .bool r = v ∧ h' = h) := by
 unfold attr_Aid.m at H
 refine fn_of (rs := [.tmp 2]) (N := 25) Tryz.func68 rfl rfl rfl rfl ?_
 refine st 7 [] (k_call H (fun _ m => attr_Bare.calls m) ?_)
 rintro t21 _ _ H ⟨rfl, rfl⟩
 cases t21
 rotate_left
 ·rw [cond_true] at H
  obtain rfl := si H
  exact st 22 [] (k_retQ ⟨_, by kernel_rfl, rfl, rfl⟩)
 rw [cond_false] at H
 refine st 2 [] (k_ite H (fun c22 H => ?_) (fun c22 H => ?_))
 ·obtain rfl := si H
  exact st 19 [] (k_retQ ⟨_, by kernel_rfl, rfl, rfl⟩)
 refine st 3 [] (k_ite H (fun c23 H => ?_) (fun c23 H => ?_))
 rotate_left
 ·refine st 7 [] (k_ite H (fun c26 H => ?_) (fun c26 H => ?_))
  ·obtain rfl := si H
   exact st 7 [] (k_retQ ⟨_, by kernel_rfl, rfl, rfl⟩)
  obtain rfl := si H
  exact st 7 [] (k_retQ ⟨_, by kernel_rfl, rfl, rfl⟩)
 refine st 2 [] (k_ite H (fun c24 H => ?_) (fun c24 H => ?_))
 ·obtain rfl := si H
  exact st 12 [] (k_retQ ⟨_, by kernel_rfl, rfl, rfl⟩)
 refine st 4 [] (k_ite H (fun c25 H => ?_) (fun c25 H => ?_))
 ·obtain rfl := si H
  exact st 7 [] (k_retQ ⟨_, by kernel_rfl, rfl, rfl⟩)
 obtain rfl := si H
 exact st 7 [] (k_retQ ⟨_, by kernel_rfl, rfl, rfl⟩)
def keys_asks.m (x0 : api_Screen) (x1 : Int) : Option (api_Screen × Bool × GoErr) :=
  (letJ (α := Bool → Option (api_Screen × Bool × GoErr)) (fun (x28 : Bool) => (bif x28 then (some (x0, false, (GoErr.no 3))) else (bif x0.Locked then (some (x0, false, (GoErr.no 7))) else ((grid_Copy.m x0).bind fun t31 => (if x1 = 109 then (some ((⟨t31.Rows, t31.Cols, (List.replicate t31.Cells.length (⟨false, (⟨false, false, 0, false⟩ : api_Attr), 0⟩ : api_Cell)), 0, true, false⟩ : api_Screen), true, GoErr.nil)) else (some ((⟨t31.Rows, t31.Cols, t31.Cells, t31.Cursor, true, false⟩ : api_Screen), true, GoErr.nil))))))) fun (j29 : Bool → Option (api_Screen × Bool × GoErr)) => ((attr_Aid.m x1).bind fun t27 => bif t27 then (j29 false) else (j29 true)))
theorem keys_asks.calls {B I : Gh} {h : Heap} {x0 : api_Screen} {x1 : Int} {a21 : Option Addr} {p22 : Nat} {n23 : Nat} {r : (api_Screen × Bool × GoErr)} (H : keys_asks.m x0 x1 = some r)  :
    Fc Tryz.prog 184 #[.agg #[iv x0.Rows, iv x0.Cols, .slice a21 n23 p22, iv x0.Cursor, .bool x0.Locked, .bool x0.Insert], .int .u8 x1] [rR t_api_Cell .i a21 p22 n23 x0.Cells] B I h (fun v L => ∃ a38 p39 n40 v42, v = .tuple #[.agg #[iv r.1.Rows, iv r.1.Cols, .slice a38 n40 p39, iv r.1.Cursor, .bool r.1.Locked, .bool r.1.Insert], .bool r.2.1, v42] ∧ L = [rR t_api_Cell .i a38 p39 n40 r.1.Cells, rE .i v42 r.2.2]) := by
 refine fc_of fun E hs => ?_
 unfold keys_asks.m at H
 cases hs.nR d0
 refine fn_of2 (rs := [.cell 4 56, .tmp 5, .tmp 6]) (N := 28) Tryz.func184 rfl rfl rfl rfl ?_
 refine st 2 [] (k_op (nB hs [iv x0.Rows, iv x0.Cols, .slice a21 x0.Cells.length p22, iv x0.Cursor, .bool x0.Locked, .bool x0.Insert] ?_))
 intro b25 h hs
 refine k_op (nA hs [iv 0, iv 0, .slice none 0 0, iv 0, .bool false, .bool false] (.agg #[iv 0, iv 0, .slice none 0 0, iv 0, .bool false, .bool false]) ?_)
 intro b26 h hs
 refine st 6 [] ?_
 obtain ⟨j29, e37, H⟩ := letJ_some H
 refine k_joinT (fun T ρ h => ∃ (x28 : Bool), ∃ I, j29 x28 = some r ∧ Fits [(1, .int .u8 x1), (2, pv b25), (4, pv b26), (7, .bool x28)] ρ ∧ St E T I h) hs tl0 ?_ ?_
 ·refine st 2 [] (k_call H (fun _ m => attr_Aid.calls m) ?_)
  rintro t27 _ _ H ⟨rfl, rfl⟩
  cases t27
  ·rw [cond_false] at H
   exact st 3 [] (k_end ⟨true, I, H, ft, hs⟩)
  rw [cond_true] at H
  exact st 3 [] (k_end ⟨false, I, H, ft, hs⟩)
 clear H
 rintro ρ h ⟨x28, I, H, hf, hs⟩
 refine k_fits _ hf ?_ rfl
 subst e37
 try dsimp only at H
 cases x28
 rotate_left
 ·rw [cond_true] at H
  refine st 3 [true] (k_op (lN (hs.bl d1) 0 6 ?_))
  refine st 1 [] (k_op (sN0 hs [iv x0.Rows, iv x0.Cols, .slice a21 x0.Cells.length p22, iv x0.Cursor, .bool x0.Locked, .bool x0.Insert] (ones_of rfl) ?_))
  intro h hs
  obtain rfl := si H
  exact st 3 [] (k_retQ ⟨[.agg #[iv x0.Rows, iv x0.Cols, .slice a21 x0.Cells.length p22, iv x0.Cursor, .bool x0.Locked, .bool x0.Insert], .bool false, .iface 137 (iv 3)], (.cons (.agg (by kernel_rfl) (by kernel_rfl) (by kernel_rfl) ((hs.bl d0).seg_ 0 6 (Nat.le_of_ble_eq_true rfl))) (.cons (.tmp (by kernel_rfl)) (.cons (.tmp (by kernel_rfl)) .nil))), I, _, ⟨a21, p22, x0.Cells.length, (.iface 137 (iv 3)), rfl, rfl⟩, hs.pk (.c d2 (.f imEC .n))⟩)
 rw [cond_false] at H
 refine st 4 [false] (k_op (lB (hs.bl d1) 4 rfl ?_))
 refine k_spl H (fun c30 H => ?_) (fun c30 H => ?_)
 ·refine st 5 [true] (k_op (lN (hs.bl d1) 0 6 ?_))
  refine st 1 [] (k_op (sN0 hs [iv x0.Rows, iv x0.Cols, .slice a21 x0.Cells.length p22, iv x0.Cursor, .bool x0.Locked, .bool x0.Insert] (ones_of rfl) ?_))
  intro h hs
  obtain rfl := si H
  exact st 3 [] (k_retQ ⟨[.agg #[iv x0.Rows, iv x0.Cols, .slice a21 x0.Cells.length p22, iv x0.Cursor, .bool x0.Locked, .bool x0.Insert], .bool false, .iface 137 (iv 7)], (.cons (.agg (by kernel_rfl) (by kernel_rfl) (by kernel_rfl) ((hs.bl d0).seg_ 0 6 (Nat.le_of_ble_eq_true rfl))) (.cons (.tmp (by kernel_rfl)) (.cons (.tmp (by kernel_rfl)) .nil))), I, _, ⟨a21, p22, x0.Cells.length, (.iface 137 (iv 7)), rfl, rfl⟩, hs.pk (.c d2 (.f imEC .n))⟩)
 refine st 7 [false] (k_op (lN (hs.bl d1) 0 6 ?_))
 obtain ⟨hk, bk⟩ := hs.call tk0 (.c (qI d2) .n)
 refine k_call H (fun _ m => grid_Copy.calls m hk) ?_
 rintro t31 _ h H ⟨I, _, ⟨a32, p33, n34, rfl, rfl⟩, hk⟩
 replace hs := bk hk ct1 rfl
 cases hs.nO d0
 refine k_op (sN0 (hs.f d2) [iv t31.Rows, iv t31.Cols, .slice a32 t31.Cells.length p33, iv t31.Cursor, .bool t31.Locked, .bool t31.Insert] (ones_of rfl) ?_)
 intro h hs
 refine st 4 [] (k_op (sB (v := .bool true) hs cw4 ?_))
 intro h hs
 refine st 1 [] (k_op (sB (v := .bool false) hs cw5 ?_))
 intro h hs
 refine st 5 [] (k_ite H (fun c36 H => ?_) (fun c36 H => ?_))
 rotate_left
 ·refine st 5 [false] (k_op (lN (hs.bl d0) 0 6 ?_))
  refine k_op (sN0 (hs.f d2) [iv t31.Rows, iv t31.Cols, .slice a32 t31.Cells.length p33, iv t31.Cursor, .bool true, .bool false] (ones_of rfl) ?_)
  intro h hs
  obtain rfl := si H
  obtain ⟨I, hs⟩ := (hs.f d2).fO
  exact st 3 [] (k_retQ ⟨[.agg #[iv t31.Rows, iv t31.Cols, .slice a32 t31.Cells.length p33, iv t31.Cursor, .bool true, .bool false], .bool true, .nilIface], (.cons (.agg (by kernel_rfl) (by kernel_rfl) (by kernel_rfl) ((hs.bl d1).seg_ 0 6 (Nat.le_of_ble_eq_true rfl))) (.cons (.tmp (by kernel_rfl)) (.cons (.tmp (by kernel_rfl)) .nil))), I, _, ⟨a32, p33, t31.Cells.length, (.nilIface), rfl, rfl⟩, hs.pk (.c d0 (.f imEN .n))⟩)
 refine st 5 [true] (k_op (lB (hs.bl d0) 2 rfl ?_))
 replace hs := (hs.f d1)
 refine k_op (clO (e := 89) hs (⟨false, (⟨false, false, 0, false⟩ : api_Attr), 0⟩ : api_Cell) (.agg #[.bool false, .bool false, .bool false, iv 0, .bool false, .int .u8 0]) (fun _ _ => rfl) ?_)
 intro h hs
 refine st 3 [] (k_op (sB (v := iv 0) (hs.f d1) cw3 ?_))
 intro h hs
 refine st 3 [] (k_op (lN (hs.bl d0) 0 6 ?_))
 refine k_op (sN0 (hs.f d2) [iv t31.Rows, iv t31.Cols, .slice a32 t31.Cells.length p33, iv 0, .bool true, .bool false] (ones_of rfl) ?_)
 intro h hs
 obtain rfl := si H
 obtain ⟨I, hs⟩ := (hs.f d2).fO
 exact st 3 [] (k_retQ ⟨[.agg #[iv t31.Rows, iv t31.Cols, .slice a32 t31.Cells.length p33, iv 0, .bool true, .bool false], .bool true, .nilIface], (.cons (.agg (by kernel_rfl) (by kernel_rfl) (by kernel_rfl) ((hs.bl d1).seg_ 0 6 (Nat.le_of_ble_eq_true rfl))) (.cons (.tmp (by kernel_rfl)) (.cons (.tmp (by kernel_rfl)) .nil))), I, _, ⟨a32, p33, t31.Cells.length, (.nilIface), rfl, rfl⟩, hs.pk (.c d0 (.f imEN .n))⟩)
def move_Moves.m (x0 : Int) : Option Bool :=
  (if x0 ≥ 2 then (some (decide (x0 ≤ 9))) else (some false))
theorem move_Moves.calls {x0 : Int} {h : Heap} {r : Bool} (H : move_Moves.m x0 = some r)   :
    Ret Tryz.prog 225 #[iv x0] h (fun v h' => .bool r = v ∧ h' = h) := by
 unfold move_Moves.m at H
 refine fn_of (rs := [.tmp 2]) (N := 9) Tryz.func225 rfl rfl rfl rfl ?_
 refine st 7 [] (k_ite H (fun c21 H => ?_) (fun c21 H => ?_))
 ·obtain rfl := si H
  exact st 6 [] (k_retQ ⟨_, by kernel_rfl, rfl, rfl⟩)
 obtain rfl := si H
 exact st 6 [] (k_retQ ⟨_, by kernel_rfl, rfl, rfl⟩)
def grid_On.m (x0 : api_Screen) (x1 : Int) (x2 : Int) : Option Int :=
  (if (x0.Cells.length : Int) ≠ 0 then (some (Int.tmod (w64 ((w64 (x1 + (Int.tmod x2 (x0.Cells.length : Int)))) + (x0.Cells.length : Int))) (x0.Cells.length : Int))) else none)
theorem grid_On.calls {B I : Gh} {h : Heap} {x0 : api_Screen} {x1 : Int} {x2 : Int} {a21 : Option Addr} {p22 : Nat} {n23 : Nat} {r : Int} (H : grid_On.m x0 x1 x2 = some r)  :
    Fc Tryz.prog 272 #[.agg #[iv x0.Rows, iv x0.Cols, .slice a21 n23 p22, iv x0.Cursor, .bool x0.Locked, .bool x0.Insert], iv x1, iv x2] [rR t_api_Cell .b a21 p22 n23 x0.Cells] B I h (fun v L => v = iv r ∧ L = []) := by
 refine fc_of fun E hs => ?_
 unfold grid_On.m at H
 cases hs.nR d0
 refine fn_of (rs := [.tmp 6]) (N := 20) Tryz.func272 rfl rfl rfl rfl ?_
 refine st 2 [] (k_op (nB hs [iv x0.Rows, iv x0.Cols, .slice a21 x0.Cells.length p22, iv x0.Cursor, .bool x0.Locked, .bool x0.Insert] ?_))
 intro b25 h hs
 refine st 5 [] (k_op (lB (hs.bl d0) 2 rfl ?_))
 obtain ⟨c26, H⟩ := guard_pos H
 refine st 8 [] (k_val (iv (Int.tmod x2 (x0.Cells.length : Int))) (pr_rem (k := .i64) (a := x2) (b := (x0.Cells.length : Int)) (by kernel_rfl) (by kernel_rfl) c26) ?_)
 refine st 4 [] (k_val (iv (Int.tmod (w64 ((w64 (x1 + (Int.tmod x2 (x0.Cells.length : Int)))) + (x0.Cells.length : Int))) (x0.Cells.length : Int))) (pr_rem (k := .i64) (a := (w64 ((w64 (x1 + (Int.tmod x2 (x0.Cells.length : Int)))) + (x0.Cells.length : Int)))) (b := (x0.Cells.length : Int)) (by kernel_rfl) (by kernel_rfl) c26) ?_)
 obtain rfl := si H
 exact st 2 [] (k_retQ ⟨_, by kernel_rfl, I, _, ⟨rfl, rfl⟩, hs.pk .n⟩)
def field_enters.m (x0 : api_Screen) (x1 : Int) : Option Bool :=
  (if 0 ≤ x1 then (if x1 < (x0.Cells.length : Int) then (bif (at_ x0.Cells x1).Field then (bif ((at_ x0.Cells x1).Attr).Protected then (some false) else ((grid_On.m x0 x1 1).bind fun t34 => (if 0 ≤ t34 then (if t34 < (x0.Cells.length : Int) then (some (!((at_ x0.Cells t34).Field))) else none) else none))) else (some false)) else none) else none)
theorem field_enters.calls {B I : Gh} {h : Heap} {x0 : api_Screen} {x1 : Int} {a21 : Option Addr} {p22 : Nat} {n23 : Nat} {r : Bool} (H : field_enters.m x0 x1 = some r)  :
    Fc Tryz.prog 305 #[.agg #[iv x0.Rows, iv x0.Cols, .slice a21 n23 p22, iv x0.Cursor, .bool x0.Locked, .bool x0.Insert], iv x1] [rR t_api_Cell .b a21 p22 n23 x0.Cells] B I h (fun v L => v = .bool r ∧ L = []) := by
 refine fc_of fun E hs => ?_
 unfold field_enters.m at H
 cases hs.nR d0
 refine fn_of (rs := [.tmp 4]) (N := 30) Tryz.func305 rfl rfl rfl rfl ?_
 refine st 2 [] (k_op (nB hs [iv x0.Rows, iv x0.Cols, .slice a21 x0.Cells.length p22, iv x0.Cursor, .bool x0.Locked, .bool x0.Insert] ?_))
 intro b25 h hs
 refine st 5 [] (k_op (lB (hs.bl d0) 2 rfl ?_))
 obtain ⟨c26, H⟩ := guard_pos H
 obtain ⟨c27, H⟩ := guard_pos H
 refine st 1 [] (k_val (elemPtr a21 (x1.toNat * 6)) (pI (e := 89) (ik := .i64) (hs.sR d1) c26 c27) ?_)
 obtain ⟨y29, g28, q30⟩ := (hs.sR d1).toSl.seg c26 c27
 obtain rfl := t_api_Cell.open_ q30
 refine k_op (lG g28 ?_)
 refine k_op (nA hs [.bool false, .bool false, .bool false, iv 0, .bool false, .int .u8 0] (.agg #[.bool false, .bool false, .bool false, iv 0, .bool false, .int .u8 0]) ?_)
 intro b31 h hs
 refine k_op (sN0 hs [.bool ((at_ x0.Cells x1).Field), .bool (((at_ x0.Cells x1).Attr).Protected), .bool (((at_ x0.Cells x1).Attr).Numeric), iv (((at_ x0.Cells x1).Attr).Show), .bool (((at_ x0.Cells x1).Attr).Modified), .int .u8 ((at_ x0.Cells x1).Char)] (ones_of rfl) ?_)
 intro h hs
 refine st 2 [] ?_
 obtain ⟨hs0, bk0⟩ := hs.call tk0 (.c (qL d0) (.c (qL d1) (.c (qB d2) .n)))
 have hs := hs0
 refine k_regD hs0 20 ?_
 refine aRun [0] 19 hs.keep ?_
 refine aL 1 rfl hs.keep (ll hs0 d0 (n := 0) rfl) (nmL hs0 d0) ?_
 rcases bool_or ((at_ x0.Cells x1).Field) with c32 | c32
 ·replace H := bif_f c32 H
  refine a_known c32 ?_
  refine aRun [2, 3, 4, 5, 6, 7, 8, 9, 10, 11, 12, 13, 14, 15, 16, 17, 18, 19] 0 hs.keep ?_
  replace hs := hs.pk .n
  replace hs := bk0 hs ct0 rfl
  refine aEnd ?_
  obtain rfl := si H
  exact k_retQ ⟨_, by kernel_rfl, I, _, ⟨rfl, rfl⟩, hs.pk .n⟩
 replace H := bif_t c32 H
 refine a_known c32 ?_
 refine aRun [2, 3, 4] 15 hs.keep ?_
 refine aL 5 rfl hs.keep (ll hs0 d0 (n := 1) rfl) (nmL hs0 d0) ?_
 rcases bool_or (((at_ x0.Cells x1).Attr).Protected) with c33 | c33
 rotate_left
 ·replace H := bif_t c33 H
  refine a_known c33 ?_
  refine aRun [6, 7, 8, 9, 10, 11, 12, 13, 14, 15, 16, 17, 18, 19] 0 hs.keep ?_
  replace hs := hs.pk .n
  replace hs := bk0 hs ct0 rfl
  refine aEnd ?_
  obtain rfl := si H
  exact k_retQ ⟨_, by kernel_rfl, I, _, ⟨rfl, rfl⟩, hs.pk .n⟩
 replace H := bif_f c33 H
 refine a_known c33 ?_
 refine aRun [6, 7, 8, 9] 10 hs.keep ?_
 refine aL 10 rfl hs.keep (ll hs0 d1 (n := 2) rfl) (nmL hs0 d1) ?_
 refine aG 11 rfl hs.keep (lls hs0 d1 0 6 rfl) (nmL hs0 d1) ?_
 refine aRun [12] 7 hs.keep ?_
 obtain ⟨hk, bk⟩ := hs.call tk0 (.c (qB d2) .n)
 refine aO1 13 rfl (o_call H (fun _ m => grid_On.calls m hk) ?_)
 rintro t34 _ h H ⟨I, _, ⟨rfl, rfl⟩, hk⟩
 replace hs := bk hk ct0 rfl
 refine ⟨hs.keep, ?_⟩
 obtain ⟨c35, H⟩ := guard_pos H
 obtain ⟨c36, H⟩ := guard_pos H
 refine aP 14 (elemPtr a21 (t34.toNat * 6)) rfl (pI (e := 89) (ik := .i64) (hs.sR d2) c35 c36) hs.keep ?_
 refine aP 15 (elemPtr a21 (t34.toNat * 6 + 0)) rfl (pF (off := 0) (hs.sR d2) c35 c36) hs.keep ?_
 obtain ⟨y38, g37, q39⟩ := (hs0.sR d2).toSl.seg c35 c36
 obtain rfl := t_api_Cell.open_ q39
 refine aL 16 rfl hs.keep (seg_cell (f := 0) g37 rfl) (nmR hs0 d2 c35 c36) ?_
 refine aRun [17, 18, 19] 0 hs.keep ?_
 replace hs := hs.pk .n
 replace hs := bk0 hs ct0 rfl
 refine aEnd ?_
 obtain rfl := si H
 exact k_retQ ⟨_, by kernel_rfl, I, _, ⟨rfl, rfl⟩, hs.pk .n⟩
def field_sign.m (x0 : Int) : Option Int :=
  (if x0 < 0 then (some (-1)) else (some 1))
theorem field_sign.calls {x0 : Int} {h : Heap} {r : Int} (H : field_sign.m x0 = some r)   :
    Ret Tryz.prog 307 #[iv x0] h (fun v h' => iv r = v ∧ h' = h) := by
 unfold field_sign.m at H
 refine fn_of (rs := [.tmp 2]) (N := 5) Tryz.func307 rfl rfl rfl rfl ?_
 refine st 8 [] (k_ite H (fun c21 H => ?_) (fun c21 H => ?_))
 ·obtain rfl := si H
  exact st 6 [true] (k_retQ ⟨_, by kernel_rfl, rfl, rfl⟩)
 obtain rfl := si H
 exact st 7 [false] (k_retQ ⟨_, by kernel_rfl, rfl, rfl⟩)
def field_round.xs (s : api_Screen) (sg : Int) : Nat → Int → Option (List Int)
  | 0, _ => some []
  | n + 1, x => (grid_On.m s x sg).bind fun y => (field_round.xs s sg n y).bind fun l => some (x :: l)
def field_round.m (x0 : api_Screen) (x1 : Int) (x2 : Int) : Option (List Int) :=
  if (x0.Cells.length : Int) ≤ 1099511627776 then (grid_On.m x0 x1 x2).bind fun x => (field_sign.m x2).bind fun sg => field_round.xs x0 sg x0.Cells.length x else none
theorem field_round.xs_len {s : api_Screen} {sg : Int} : ∀ {n : Nat} {x : Int} {l : List Int}, field_round.xs s sg n x = some l → l.length = n
  | 0, _, l, h => by obtain rfl := Option.some.inj h; rfl
  | n + 1, x, l, h => by
    unfold field_round.xs at h
    obtain ⟨y, _, h⟩ := bind_some h
    obtain ⟨l', h1, h⟩ := bind_some h
    obtain rfl := Option.some.inj h
    rw [List.length_cons, field_round.xs_len h1]
theorem field_round.xs_cons {s : api_Screen} {sg : Int} {n : Nat} {x x' : Int} {l : List Int} (h : field_round.xs s sg (n + 1) x = some (x' :: l)) : x' = x ∧ ∃ y, grid_On.m s x sg = some y ∧ field_round.xs s sg n y = some l := by
  unfold field_round.xs at h
  obtain ⟨y, h1, h⟩ := bind_some h
  obtain ⟨l', h2, h⟩ := bind_some h
  have e := Option.some.inj h
  obtain ⟨rfl, rfl⟩ := List.cons.inj e
  exact ⟨rfl, y, h1, h2⟩
theorem field_round.calls {B I : Gh} {h : Heap} {x0 : api_Screen} {x1 : Int} {x2 : Int} {a21 : Option Addr} {p22 : Nat} {n23 : Nat} {r : List Int} (H : field_round.m x0 x1 x2 = some r) :
    Fc Tryz.prog 293 #[.agg #[.int .i64 x0.Rows, .int .i64 x0.Cols, .slice a21 n23 p22, .int .i64 x0.Cursor, .bool x0.Locked, .bool x0.Insert], .int .i64 x1, .int .i64 x2] [] B I h
      (fun v L => ∃ (b1 b2 b3 : Nat), v = .func (.func 306) #[] #[.pointer (some ⟨b1, 0, none⟩), .pointer (some ⟨b2, 0, none⟩), .pointer (some ⟨b3, 0, none⟩)] ∧
        L = [rB b1 [.int .i64 x0.Rows, .int .i64 x0.Cols, .slice a21 n23 p22, .int .i64 x0.Cursor, .bool x0.Locked, .bool x0.Insert] 56, rB b2 [.int .i64 x1] 3, rB b3 [.int .i64 x2] 3] ∧ field_round.m x0 x1 x2 = some r) := by
 refine fc_of fun E hs => ?_
 refine fn_of (args := [.agg #[.int .i64 x0.Rows, .int .i64 x0.Cols, .slice a21 n23 p22, .int .i64 x0.Cursor, .bool x0.Locked, .bool x0.Insert], .int .i64 x1, .int .i64 x2]) (rs := [.tmp 6]) (N := 8) Tryz.func293 rfl rfl rfl rfl ?_
 refine st 2 [] (k_op (nB hs [.int .i64 x0.Rows, .int .i64 x0.Cols, .slice a21 n23 p22, .int .i64 x0.Cursor, .bool x0.Locked, .bool x0.Insert] ?_))
 intro b1 h hs
 refine k_op (nB hs [.int .i64 x1] ?_)
 intro b2 h hs
 refine k_op (nB hs [.int .i64 x2] ?_)
 intro b3 h hs
 refine st 7 [] ?_
 refine k_retQ ?_
 exact ⟨_, by kernel_rfl, I, _, ⟨b1, b2, b3, rfl, rfl, H⟩, hs.pk (.c d2 (.c d1 (.c d0 .n)))⟩
structure RndH (s : api_Screen) (x1 x2 : Int) (a : Option Addr) (p n b1 b2 b3 : Nat) (h : Heap) : Prop where
  s1 : segAt h (some ⟨b1, 0, none⟩) 0 6 = some [.int .i64 s.Rows, .int .i64 s.Cols, .slice a n p, .int .i64 s.Cursor, .bool s.Locked, .bool s.Insert]
  c1 : cellAt h (some ⟨b1, 0, none⟩) 2 = some (.slice a n p)
  c2 : cellAt h (some ⟨b2, 0, none⟩) 0 = some (.int .i64 x1)
  c3 : cellAt h (some ⟨b3, 0, none⟩) 0 = some (.int .i64 x2)
  rd : ∃ I, Bd I h ∧ Rd t_api_Cell I h a p s.Cells
  len : s.Cells.length = n
theorem grid_On.ret {s : api_Screen} {x y r : Int} {a : Option Addr} {p n : Nat} {h : Heap} (H : grid_On.m s x y = some r) (hr : ∃ I, Bd I h ∧ Rd t_api_Cell I h a p s.Cells) (hl : s.Cells.length = n) :
    Ret Tryz.prog 272 #[.agg #[.int .i64 s.Rows, .int .i64 s.Cols, .slice a n p, .int .i64 s.Cursor, .bool s.Locked, .bool s.Insert], .int .i64 x, .int .i64 y] h (fun v h' => v = .int .i64 r ∧ Grown h h') := by
  obtain ⟨I, hB, rd⟩ := hr
  have pl : St (en [rR t_api_Cell .b a p n s.Cells] No I h) [rR t_api_Cell .b a p n s.Cells] I h :=
    ⟨Pst.refl hB, fun _ x => x.elim, fun _ _ x => x, ⟨⟨⟨rd.mono (fun _ y => .inl y), hl⟩, fun _ x => x.elim, fun _ x => x.elim⟩, trivial⟩, fun _ x => .inl x⟩
  refine (grid_On.calls (B := No) H pl).mono ?_
  rintro v h' ⟨I', L, ⟨rfl, rfl⟩, hs⟩
  exact ⟨rfl, hs.pst.grown fun b x => x.elim id id⟩
theorem field_round.iter {s : api_Screen} {x1 x2 : Int} {a : Option Addr} {p n b1 b2 b3 : Nat} {xs : List Int} (H : field_round.m s x1 x2 = some xs) :
    Iter Tryz.prog 306 #[.pointer (some ⟨b1, 0, none⟩), .pointer (some ⟨b2, 0, none⟩), .pointer (some ⟨b3, 0, none⟩)] (fun x => #[Value.int .i64 x]) xs (RndH s x1 x2 a p n b1 b2 b3) := by
  unfold field_round.m at H
  obtain ⟨hlim, H⟩ := guard_pos H
  intro l J Jx hJH hJG hXG hy h h0
  have H0 := hJH _ _ h0
  refine fn_of (args := [.func (.yield l) #[] #[], .pointer (some ⟨b1, 0, none⟩), .pointer (some ⟨b2, 0, none⟩), .pointer (some ⟨b3, 0, none⟩)]) (rs := []) (N := 25) Tryz.func306 rfl rfl rfl rfl ?_
  refine st 2 [] (k_op (lG (a := some ⟨b1, 0, none⟩) (n := 0) H0.s1 ?_))
  refine k_op (lC (a := some ⟨b2, 0, none⟩) (n := 0) H0.c2 ?_)
  refine k_op (lC (a := some ⟨b3, 0, none⟩) (n := 0) H0.c3 ?_)
  refine k_call H (fun _ m => grid_On.ret m H0.rd H0.len) ?_
  rintro x _ h1 H ⟨rfl, g1⟩
  have h0 := hJG _ _ _ h0 g1
  have H0 := hJH _ _ h0
  obtain ⟨sg, Hs, H⟩ := bind_some H
  have hln := field_round.xs_len H
  have hn := H0.len
  refine st 5 [] (k_op (lC (a := some ⟨b1, 0, none⟩) (n := 2) H0.c1 ?_))
  refine st 4 [] ?_
  refine k_loop 0 (fun k ρ h => ∃ (pre rest : List Int) (x i : Int), xs = pre ++ rest ∧ field_round.xs s sg rest.length x = some rest ∧ k = rest.length ∧ i = (pre.length : Int) ∧
    Fits [(0, .func (.yield l) #[] #[]), (1, .pointer (some ⟨b1, 0, none⟩)), (2, .pointer (some ⟨b2, 0, none⟩)), (3, .pointer (some ⟨b3, 0, none⟩)), (5, .int .i64 x), (12, .int .i64 (n : Int)), (13, .int .i64 i)] ρ ∧ J pre h)
    (fun _ h => J xs h) xs.length ⟨[], xs, x, 0, rfl, by rw [hln]; exact H, rfl, rfl, ⟨by kernel_rfl, by kernel_rfl, by kernel_rfl, by kernel_rfl, by kernel_rfl, by kernel_rfl, by kernel_rfl, trivial⟩, h0⟩ ?_ rfl ?_
  · rintro k ρ h2 ⟨pre, rest, x, i, hx, hr, rfl, hi, hf, hJ⟩
    refine k_fits _ hf ?_ rfl
    have H0 := hJH _ _ hJ
    have hl2 : (pre.length : Int) + (rest.length : Int) = (n : Int) := by rw [← hn, ← hln, hx, List.length_append]; omega
    cases rest with
    | nil =>
      rw [List.append_nil] at hx
      subst hx
      refine st 2 [] (k_val (.bool false) (pr_bool (b := decide (i < (n : Int))) (by kernel_rfl) (decide_eq_false (by rw [hi]; simp at hl2; omega))) ?_)
      refine st 3 [false] ?_
      refine k_out rfl ?_
      exact xE hJ
    | cons x' rest =>
      rw [List.length_cons] at hl2
      obtain ⟨rfl, y, hy1, hy2⟩ := field_round.xs_cons hr
      refine st 2 [] (k_val (.bool true) (pr_bool (b := decide (i < (n : Int))) (by kernel_rfl) (decide_eq_true (by rw [hi]; omega))) ?_)
      refine st 11 [true] (k_op (owp_yield (args := #[.int .i64 x']) (hy pre x' rest h2 hx hJ) ?_))
      rintro b h3 (⟨rfl, hJ3⟩ | ⟨rfl, hX⟩)
      · have H3 := hJH _ _ hJ3
        refine st 4 [false] ?_
        refine k_regP 6 ?_
        refine aG (a := some ⟨b1, 0, none⟩) (n := 0) 0 rfl Keep.refl H3.s1 (fun _ _ x => x) ?_
        refine aRun [1] 4 Keep.refl ?_
        refine aL (a := some ⟨b3, 0, none⟩) (n := 0) 2 rfl Keep.refl H3.c3 (fun _ _ x => x) ?_
        refine aO1 3 rfl (owp_callF (by kernel_rfl) (field_sign.calls Hs) ?_)
        rintro v h' ⟨e1, e2⟩
        rw [← e1, e2]
        refine ⟨Keep.refl, ?_⟩
        refine aO1 4 rfl (owp_callF (by kernel_rfl) (grid_On.ret hy1 H3.rd H3.len) ?_)
        rintro _ h4 ⟨rfl, g4⟩
        have hk : Keep No h3 h4 := fun b hb _ => g4.keep b hb
        refine ⟨hk, ?_⟩
        refine aRun [5] 0 hk ?_
        refine aEnd ?_
        refine st 5 [] ?_
        have e : w64 (i + 1) = ((pre ++ [x']).length : Int) := by
          rw [List.length_append, List.length_singleton, w64_sm (by omega) (by omega)]; omega
        exact k_endL ⟨rest.length, by simp, pre ++ [x'], rest, y, w64 (i + 1), by rw [hx]; simp, hy2, rfl, e, ⟨by kernel_rfl, by kernel_rfl, by kernel_rfl, by kernel_rfl, by kernel_rfl, by kernel_rfl, by kernel_rfl, trivial⟩, hJG _ _ _ hJ3 g4⟩
      · refine st 3 [true] ?_
        refine k_retQ (krL ?_)
        exact ⟨.tuple #[], by kernel_rfl, .inr ⟨_, hX⟩⟩
  · rintro ρ h2 hJ
    refine k_fin ?_
    exact ⟨.tuple #[], by kernel_rfl, .inl hJ⟩
def field_first__field_round_1.l1.m (K : Nat) (x0 : api_Screen) : List Int → Option (Int ⊕ (Unit))
  | [] => some (Sum.inr ())
  | x35 :: xs => ((field_enters.m x0 x35).bind fun t37 => bif t37 then ((grid_On.m x0 x35 1).bind fun t38 => (some (Sum.inl t38))) else (field_first__field_round_1.l1.m K x0 xs))
def field_first__field_round_1.m (K : Nat) (x0 : api_Screen) (x2 : api_Screen) (x3 : Int) (x4 : Int) : Option Int :=
  ((field_round.m x2 x3 x4).bind fun (xs : List Int) => ((field_first__field_round_1.l1.m K x0 xs).bind fun s32 => match s32 with | .inl q => (some q) | .inr _ => (some (-1))))
theorem field_first__field_round_1.calls {B I : Gh} {h : Heap} {K : Nat} {x0 : api_Screen} {x2 : api_Screen} {x3 : Int} {x4 : Int} {a21 : Option Addr} {p22 : Nat} {n23 : Nat} {b2 : Nat} {a25 : Option Addr} {p26 : Nat} {n27 : Nat} {b3 : Nat} {b4 : Nat} {r : Int} (H : field_first__field_round_1.m K x0 x2 x3 x4 = some r)  :
    Fc Tryz.prog 292 #[.agg #[iv x0.Rows, iv x0.Cols, .slice a21 n23 p22, iv x0.Cursor, .bool x0.Locked, .bool x0.Insert], .func (.func 306) #[] #[pv b2, pv b3, pv b4]] [rR t_api_Cell .b a21 p22 n23 x0.Cells, rL b2 [iv x2.Rows, iv x2.Cols, .slice a25 n27 p26, iv x2.Cursor, .bool x2.Locked, .bool x2.Insert] 56, rR t_api_Cell .b a25 p26 n27 x2.Cells, rL b3 [iv x3] 3, rL b4 [iv x4] 3] B I h (fun v L => v = iv r ∧ L = []) := by
 refine fc_of fun E hs => ?_
 unfold field_first__field_round_1.m at H
 obtain ⟨xs, hm, H⟩ := bind_some H
 cases hs.nR d0
 cases hs.nR d2
 refine fn_rangeW2 (args := [.agg #[iv x0.Rows, iv x0.Cols, .slice a21 x0.Cells.length p22, iv x0.Cursor, .bool x0.Locked, .bool x0.Insert], .func (.func 306) #[] #[pv b2, pv b3, pv b4]]) (rs := [.cell 4 3]) (N := 14) [_] Tryz.func292 rfl rfl rfl rfl ?_
 refine st 1 [] (k_op (nB hs [iv x0.Rows, iv x0.Cols, .slice a21 x0.Cells.length p22, iv x0.Cursor, .bool x0.Locked, .bool x0.Insert] ?_))
 intro b29 h hs
 refine k_op (nA hs [iv 0] (iv 0) ?_)
 intro b30 h hs
 refine st 4 [] ?_
 obtain ⟨s32, m33, HR34⟩ := bind_some H
 clear H
 obtain ⟨h31, eh31⟩ : ∃ h', h' = h := ⟨_, rfl⟩
 subst eh31
 refine k_loopW (range_st (p := 7) (enc := fun (x : Int) => iv x) (hs.pk (.c d2 (.c d1 (.c d0 (.c d1 (.c d0 (.c d0 (.c d0 .n)))))))) (fun (pre : List Int) L => ∃ (rest : List Int), xs = pre ++ rest ∧ (field_first__field_round_1.l1.m K x0 rest) = some s32 ∧ L = [rR t_api_Cell .b a21 p22 x0.Cells.length x0.Cells, rB b29 [iv x0.Rows, iv x0.Cols, .slice a21 x0.Cells.length p22, iv x0.Cursor, .bool x0.Locked, .bool x0.Insert] 56, rB b30 [iv 0] 3, rR t_api_Cell .b a25 p26 x2.Cells.length x2.Cells, rL b2 [iv x2.Rows, iv x2.Cols, .slice a25 x2.Cells.length p26, iv x2.Cursor, .bool x2.Locked, .bool x2.Insert] 56, rL b3 [iv x3] 3, rL b4 [iv x4] 3]) (mkY (fun L => ∃ (x36 : Int), Sum.inl x36 = s32 ∧ L = [rB b30 [iv x36] 3]) (fun _ _ => False)) ⟨xs, rfl, m33, rfl⟩ (by kernel_rfl) (enters_of Tryz.func306 rfl (by kernel_rfl)) (field_round.iter (a := a25) (p := p26) (n := x2.Cells.length) (b1 := b2) (b2 := b3) (b3 := b4) hm) ?_ (fun x => [(5, iv x), (7, iv x)]) ?_ rfl ?_) ?_ ?_ ?_
 ·rintro o pre L I h' ⟨rest, _, _, rfl⟩ hs
  exact ⟨lls hs d5 0 6 rfl, ll hs d5 (n := 2) rfl, ll hs d6 (n := 0) rfl, ll hs d7 (n := 0) rfl, ⟨_, hs.bdG (k := .b), hs.rd d4⟩, rfl⟩
 ·intro x Q h' q
  exact st 3 [] (k_fin2 q)
 ·rintro o pre x35 rest' L I h hx' ⟨rest, hx, H, rfl⟩ hs
  obtain rfl : rest = x35 :: rest' := List.append_cancel_left (hx.symm.trans hx')
  clear hx'
  obtain ⟨rest, erest⟩ : ∃ r, r = rest' := ⟨_, rfl⟩
  subst erest
  rw [field_first__field_round_1.l1.m] at H
  refine st 3 [] (k_op (lN (hs.bl d2) 0 6 ?_))
  obtain ⟨hk, bk⟩ := hs.call tk0 (.c (qB d1) .n)
  refine st 1 [] (k_call H (fun _ m => field_enters.calls m hk) ?_)
  rintro t37 _ h H ⟨I, _, ⟨rfl, rfl⟩, hk⟩
  replace hs := bk hk ct0 rfl
  cases t37
  ·rw [cond_false] at H
   refine st 4 [false] (k_fin ?_)
   exact ⟨_, I, ⟨rest, by simp [hx], H, rfl⟩, hs.pk (.c d0 (.c d0 (.c d0 (.c d0 (.c d0 (.c d0 (.c d0 (.c d0 .n))))))))⟩
  rw [cond_true] at H
  refine st 4 [true] (k_op (lN (hs.bl d2) 0 6 ?_))
  obtain ⟨hk, bk⟩ := hs.call tk0 (.c (qB d1) .n)
  refine st 1 [] (k_call H (fun _ m => grid_On.calls m hk) ?_)
  rintro t38 _ h H ⟨I, _, ⟨rfl, rfl⟩, hk⟩
  replace hs := bk hk ct0 rfl
  refine k_op (sB (v := iv t38) (hs.f d3) cw0 ?_)
  intro h hs
  obtain rfl := si H
  exact st 1 [] (k_retQ ⟨_, I, ⟨t38, rfl, rfl⟩, hs.pk (.c d1 (.c d0 .n))⟩)
 ·intro h2 hk
  have key : ∃ (o : Obj), ∃ I, Sum.inr () = s32 ∧ St E (rQ h31.size (h31.size + 1) o :: [rB b30 [iv 0] 3]) I h2 := by
    rcases hk with ⟨o, L, I, ⟨rest, hx, H, rfl⟩, hs⟩ | ⟨o, L, I, hy, hs⟩
    · obtain rfl : rest = [] := List.append_cancel_left (hx.symm.trans (List.append_nil _).symm)
      rw [field_first__field_round_1.l1.m] at H
      obtain rfl := si H
      exact ⟨o, I, rfl, hs.pk (.c d0 (.c d2 .n))⟩
    · exact hy.elim
  obtain ⟨o, I, rfl, hs⟩ := key
  have H := HR34
  try dsimp only at H
  refine st 2 [] (k_op (sB (v := iv (-1)) (hs.f d1) cw0 ?_))
  intro h hs
  refine st 1 [] (k_retQ (krM ?_))
  obtain rfl := si H
  refine ⟨(hs.rqD d1).1, ?_⟩
  replace hs := (hs.f d1).rqe
  exact ⟨[iv (-1)], (.cons (.one (by kernel_rfl) (by kernel_rfl) ((hs.bl d0).cell (off := 0) rfl)) .nil), I, _, ⟨rfl, rfl⟩, hs.pk .n⟩
 ·rintro h2 ⟨o, L, I, ⟨x36, rfl, rfl⟩, hs⟩
  have H := HR34
  try dsimp only at H
  obtain rfl := si H
  refine ⟨(hs.rqD d0).1, ?_⟩
  replace hs := hs.rqe
  exact ⟨[iv x36], (.cons (.one (by kernel_rfl) (by kernel_rfl) ((hs.bl d0).cell (off := 0) rfl)) .nil), I, _, ⟨rfl, rfl⟩, hs.pk .n⟩
 intro i L hy
 exact hy.elim
def field_Next.m (K : Nat) (x0 : api_Screen) (x1 : Int) : Option Int :=
  ((field_round.m x0 x1 1).bind fun t26 => ((field_first__field_round_1.m K x0 x0 x1 1).bind fun t31 => (some t31)))
theorem field_Next.calls {B I : Gh} {h : Heap} {K : Nat} {x0 : api_Screen} {x1 : Int} {a21 : Option Addr} {p22 : Nat} {n23 : Nat} {r : Int} (H : field_Next.m K x0 x1 = some r)  :
    Fc Tryz.prog 267 #[.agg #[iv x0.Rows, iv x0.Cols, .slice a21 n23 p22, iv x0.Cursor, .bool x0.Locked, .bool x0.Insert], iv x1] [rR t_api_Cell .b a21 p22 n23 x0.Cells] B I h (fun v L => v = iv r ∧ L = []) := by
 refine fc_of fun E hs => ?_
 unfold field_Next.m at H
 cases hs.nR d0
 refine fn_of (rs := [.tmp 4]) (N := 10) Tryz.func267 rfl rfl rfl rfl ?_
 refine st 2 [] (k_op (nB hs [iv x0.Rows, iv x0.Cols, .slice a21 x0.Cells.length p22, iv x0.Cursor, .bool x0.Locked, .bool x0.Insert] ?_))
 intro b25 h hs
 refine st 3 [] ?_
 obtain ⟨hs0, bk0⟩ := hs.call tk0 (.c (qL d0) (.c (qB d1) .n))
 have hs := hs0
 refine k_regD hs0 6 ?_
 refine aG 0 rfl hs.keep (lls hs0 d0 0 6 rfl) (nmL hs0 d0) ?_
 refine aG 1 rfl hs.keep (lls hs0 d0 0 6 rfl) (nmL hs0 d0) ?_
 refine aRun [2] 3 hs.keep ?_
 obtain ⟨hk, bk⟩ := hs.call tk0 .n
 refine aO1 3 rfl (o_call H (fun _ m => field_round.calls (a21 := a21) (p22 := p22) (n23 := x0.Cells.length) m hk) ?_)
 rintro t26 _ h H ⟨I, _, ⟨b27, b28, b29, rfl, rfl, m30⟩, hk⟩
 replace hs := bk hk ct3 rfl
 refine ⟨hs.keep, ?_⟩
 obtain ⟨hk, bk⟩ := hs.call tk0 (.c (qB d4) (.c (qL d0) (.c (qB d4) (.c (qL d1) (.c (qL d2) .n)))))
 refine aO1 4 rfl (o_call H (fun _ m => field_first__field_round_1.calls m hk) ?_)
 rintro t31 _ h H ⟨I, _, ⟨rfl, rfl⟩, hk⟩
 replace hs := bk hk ct0 rfl
 refine ⟨hs.keep, ?_⟩
 refine aRun [5] 0 hs.keep ?_
 replace hs := hs.pk (.c d0 (.c d0 (.c d0 .n)))
 replace hs := bk0 hs ct3 rfl
 refine aEnd ?_
 obtain rfl := si H
 exact k_retQ ⟨_, by kernel_rfl, I, _, ⟨rfl, rfl⟩, hs.pk .n⟩
def field_Prev.m (K : Nat) (x0 : api_Screen) (x1 : Int) : Option Int :=
  ((field_round.m x0 x1 (-2)).bind fun t26 => ((field_first__field_round_1.m K x0 x0 x1 (-2)).bind fun t31 => (some t31)))
theorem field_Prev.calls {B I : Gh} {h : Heap} {K : Nat} {x0 : api_Screen} {x1 : Int} {a21 : Option Addr} {p22 : Nat} {n23 : Nat} {r : Int} (H : field_Prev.m K x0 x1 = some r)  :
    Fc Tryz.prog 284 #[.agg #[iv x0.Rows, iv x0.Cols, .slice a21 n23 p22, iv x0.Cursor, .bool x0.Locked, .bool x0.Insert], iv x1] [rR t_api_Cell .b a21 p22 n23 x0.Cells] B I h (fun v L => v = iv r ∧ L = []) := by
 refine fc_of fun E hs => ?_
 unfold field_Prev.m at H
 cases hs.nR d0
 refine fn_of (rs := [.tmp 4]) (N := 10) Tryz.func284 rfl rfl rfl rfl ?_
 refine st 2 [] (k_op (nB hs [iv x0.Rows, iv x0.Cols, .slice a21 x0.Cells.length p22, iv x0.Cursor, .bool x0.Locked, .bool x0.Insert] ?_))
 intro b25 h hs
 refine st 3 [] ?_
 obtain ⟨hs0, bk0⟩ := hs.call tk0 (.c (qL d0) (.c (qB d1) .n))
 have hs := hs0
 refine k_regD hs0 6 ?_
 refine aG 0 rfl hs.keep (lls hs0 d0 0 6 rfl) (nmL hs0 d0) ?_
 refine aG 1 rfl hs.keep (lls hs0 d0 0 6 rfl) (nmL hs0 d0) ?_
 refine aRun [2] 3 hs.keep ?_
 obtain ⟨hk, bk⟩ := hs.call tk0 .n
 refine aO1 3 rfl (o_call H (fun _ m => field_round.calls (a21 := a21) (p22 := p22) (n23 := x0.Cells.length) m hk) ?_)
 rintro t26 _ h H ⟨I, _, ⟨b27, b28, b29, rfl, rfl, m30⟩, hk⟩
 replace hs := bk hk ct3 rfl
 refine ⟨hs.keep, ?_⟩
 obtain ⟨hk, bk⟩ := hs.call tk0 (.c (qB d4) (.c (qL d0) (.c (qB d4) (.c (qL d1) (.c (qL d2) .n)))))
 refine aO1 4 rfl (o_call H (fun _ m => field_first__field_round_1.calls m hk) ?_)
 rintro t31 _ h H ⟨I, _, ⟨rfl, rfl⟩, hk⟩
 replace hs := bk hk ct0 rfl
 refine ⟨hs.keep, ?_⟩
 refine aRun [5] 0 hs.keep ?_
 replace hs := hs.pk (.c d0 (.c d0 (.c d0 .n)))
 replace hs := bk0 hs ct3 rfl
 refine aEnd ?_
 obtain rfl := si H
 exact k_retQ ⟨_, by kernel_rfl, I, _, ⟨rfl, rfl⟩, hs.pk .n⟩
def grid_Span.l1.m (K : Nat) (x0 : api_Screen) (x2 : Int) : Nat → (List Int) → Int → Option ((List Int))
  | 0, _, _ => none
  | k + 1, x29, x34 => (if x34 = x2 then (some (x29)) else (if (x29.length : Int) < (x0.Cells.length : Int) then ((app x29 [x34]).bind fun l47 => ((grid_On.m x0 x34 1).bind fun t52 => (grid_Span.l1.m K x0 x2 k l47 t52))) else (some (x29))))
def grid_Span.m (K : Nat) (x0 : api_Screen) (x1 : Int) (x2 : Int) : Option (List Int) :=
  ((grid_On.m x0 x1 1).bind fun t28 => ((grid_Span.l1.m K x0 x2 K [x1] t28).bind fun x36 => (some x36)))
theorem grid_Span.calls {B I : Gh} {h : Heap} {K : Nat} {x0 : api_Screen} {x1 : Int} {x2 : Int} {a21 : Option Addr} {p22 : Nat} {n23 : Nat} {r : (List Int)} (H : grid_Span.m K x0 x1 x2 = some r)  :
    Fc Tryz.prog 298 #[.agg #[iv x0.Rows, iv x0.Cols, .slice a21 n23 p22, iv x0.Cursor, .bool x0.Locked, .bool x0.Insert], iv x1, iv x2] [rR t_api_Cell .b a21 p22 n23 x0.Cells] B I h (fun v L => ∃ a53 p54 n55, v = .slice a53 n55 p54 ∧ L = [rO (tInt .i64) .i a53 p54 n55 r]) := by
 refine fc_of fun E hs => ?_
 unfold grid_Span.m at H
 cases hs.nR d0
 refine fn_of (rs := [.tmp 6]) (N := 33) Tryz.func298 rfl rfl rfl rfl ?_
 refine st 2 [] (k_op (nB hs [iv x0.Rows, iv x0.Cols, .slice a21 x0.Cells.length p22, iv x0.Cursor, .bool x0.Locked, .bool x0.Insert] ?_))
 intro b25 h hs
 refine st 5 [] (k_op (nS (e := 3) hs .i (tInt .i64) ([x1] : List Int) [iv x1] 1 (iv 0) (Reps.int (I := (Cl.G .i E.B I)) (k := .i64) (l := [x1])) ?_))
 intro b26 h hs
 refine st 5 [] (k_op (lN (hs.bl d1) 0 6 ?_))
 obtain ⟨hk, bk⟩ := hs.call tk0 (.c (qB d2) .n)
 refine st 1 [] (k_call H (fun _ m => grid_On.calls m hk) ?_)
 rintro t28 _ h H ⟨I, _, ⟨rfl, rfl⟩, hk⟩
 replace hs := bk hk ct0 rfl
 refine st 3 [] ?_
 obtain ⟨s35, m42, HR41⟩ := bind_some H
 refine k_loopT hs tl1 0 (fun T k' ρ h => ∃ (x29 : List Int) (x34 : Int), ∃ a30 p31 n32 I, grid_Span.l1.m K x0 x2 k' x29 x34 = some s35 ∧ Fits [(2, iv x2), (3, pv b25), (7, .slice a30 n32 p31), (8, iv x34)] ρ ∧ St E (rO (tInt .i64) .i a30 p31 n32 x29 :: T) I h) (fun T ρ h => ∃ (x36 : List Int), ∃ a37 p38 n39 I, x36 = s35 ∧ Fits [(7, .slice a37 n39 p38)] ρ ∧ St E (rO (tInt .i64) .i a37 p38 n39 x36 :: T) I h) K ⟨[x1], t28, (sa b26), 1, 1, I, m42, ft, hs.pk (.c d0 pk0)⟩ ?_ rfl ?_
 rotate_left
 ·rintro ρ h ⟨x36, a37, p38, n39, I, rfl, hf, hs⟩
  have H := HR41
  try dsimp only at H
  refine k_fits _ hf ?_ rfl
  cases hs.nO d0
  obtain rfl := si H
  exact st 5 [] (k_retQ ⟨_, by kernel_rfl, I, _, ⟨a37, p38, x36.length, rfl, rfl⟩, hs.pk (.c d0 .n)⟩)
 clear HR41 m42 H
 rintro k' ρ h ⟨x29, x34, a30, p31, n32, I, H, hf, hs⟩
 cases k' with
 | zero => cases H
 | succ k =>
  rw [grid_Span.l1.m] at H
  refine k_fits _ hf ?_ rfl
  cases hs.nO d0
  refine st 5 [] (k_iteN H (fun c43 H => ?_) (fun c43 H => ?_))
  ·refine st 10 [false] (k_out rfl ?_)
   obtain rfl := si H
   exact xE ⟨x29, a30, p31, x29.length, I, rfl, ft, hs.pk (.c d0 pk0)⟩
  refine st 4 [] (k_op (lB (hs.bl d1) 2 rfl ?_))
  refine st 1 [] (k_ite H (fun c44 H => ?_) (fun c44 H => ?_))
  rotate_left
  ·refine st 3 [false] (k_out rfl ?_)
   obtain rfl := si H
   exact xE ⟨x29, a30, p31, x29.length, I, rfl, ft, hs.pk (.c d0 pk0)⟩
  refine st 9 [true] (k_op (nS (e := 3) hs .i (tInt .i64) ([x34] : List Int) [iv x34] 1 (iv 0) (Reps.int (I := (Cl.G .i E.B I)) (k := .i64) (l := [x34])) ?_))
  intro b45 h hs
  replace hs := (hs.f d1)
  obtain ⟨l47, m48, H⟩ := bind_some H
  refine k_op (aO (e := 3) (bytes := 8) hs (hs.sO d1) m48 ?_)
  intro a49 p50 h hs
  refine st 4 [] (k_op (lN (hs.bl d2) 0 6 ?_))
  obtain ⟨hk, bk⟩ := hs.call tk0 (.c (qB d3) .n)
  refine st 1 [] (k_call H (fun _ m => grid_On.calls m hk) ?_)
  rintro t52 _ h H ⟨I, _, ⟨rfl, rfl⟩, hk⟩
  replace hs := bk hk ct0 rfl
  exact st 2 [] (k_endL ⟨k, Nat.lt_succ_self _, l47, t52, a49, p50, l47.length, I, H, ft, hs.pk (.c d0 pk1)⟩)
def field_Begin.l1.m (K : Nat) (x0 : api_Screen) : List Int → Option (Int ⊕ (Unit))
  | [] => some (Sum.inr ())
  | x42 :: xs => (if 0 ≤ x42 then (if x42 < (x0.Cells.length : Int) then (bif (at_ x0.Cells x42).Field then (some (Sum.inl x42)) else (field_Begin.l1.m K x0 xs)) else none) else none)
def field_Begin.m (K : Nat) (x0 : api_Screen) (x1 : Int) : Option Int :=
  (if 0 ≤ x1 then (if x1 < (x0.Cells.length : Int) then (bif (at_ x0.Cells x1).Field then (some x1) else ((field_round.m x0 x1 (-1)).bind fun t33 => ((field_Begin.l1.m K x0 t33).bind fun s39 => match s39 with | .inl q => (some q) | .inr _ => (some (-1))))) else none) else none)
theorem field_Begin.calls {B I : Gh} {h : Heap} {K : Nat} {x0 : api_Screen} {x1 : Int} {a21 : Option Addr} {p22 : Nat} {n23 : Nat} {r : Int} (H : field_Begin.m K x0 x1 = some r)  :
    Fc Tryz.prog 288 #[.agg #[iv x0.Rows, iv x0.Cols, .slice a21 n23 p22, iv x0.Cursor, .bool x0.Locked, .bool x0.Insert], iv x1] [rR t_api_Cell .b a21 p22 n23 x0.Cells] B I h (fun v L => v = iv r ∧ L = []) := by
 refine fc_of fun E hs => ?_
 unfold field_Begin.m at H
 cases hs.nR d0
 refine fn_rangeW2 (args := [.agg #[iv x0.Rows, iv x0.Cols, .slice a21 x0.Cells.length p22, iv x0.Cursor, .bool x0.Locked, .bool x0.Insert], iv x1]) (rs := [.cell 4 3]) (N := 24) [_, _] Tryz.func288 rfl rfl rfl rfl ?_
 refine st 1 [] (k_op (nB hs [iv x0.Rows, iv x0.Cols, .slice a21 x0.Cells.length p22, iv x0.Cursor, .bool x0.Locked, .bool x0.Insert] ?_))
 intro b25 h hs
 refine k_op (nA hs [iv 0] (iv 0) ?_)
 intro b26 h hs
 refine st 4 [] (k_op (lB (hs.bl d1) 2 rfl ?_))
 obtain ⟨c27, H⟩ := guard_pos H
 obtain ⟨c28, H⟩ := guard_pos H
 refine st 1 [] (k_val (elemPtr a21 (x1.toNat * 6)) (pI (e := 89) (ik := .i64) (hs.sR d2) c27 c28) ?_)
 refine k_val (elemPtr a21 (x1.toNat * 6 + 0)) (pF (off := 0) (hs.sR d2) c27 c28) ?_
 obtain ⟨y30, g29, q31⟩ := (hs.sR d2).toSl.seg c27 c28
 obtain rfl := t_api_Cell.open_ q31
 refine k_op (lC (seg_cell (f := 0) g29 rfl) ?_)
 refine k_spl H (fun c32 H => ?_) (fun c32 H => ?_)
 ·refine st 5 [true] (k_op (sB (v := iv x1) hs cw0 ?_))
  intro h hs
  obtain rfl := si H
  exact st 1 [] (k_retQ (krF ⟨[iv x1], (.cons (.one (by kernel_rfl) (by kernel_rfl) ((hs.bl d0).cell (off := 0) rfl)) .nil), I, _, ⟨rfl, rfl⟩, hs.pk .n⟩))
 refine st 4 [false] (k_op (lN (hs.bl d1) 0 6 ?_))
 obtain ⟨hk, bk⟩ := hs.call tk0 .n
 refine st 1 [] (k_call H (fun _ m => field_round.calls (a21 := a21) (p22 := p22) (n23 := x0.Cells.length) m hk) ?_)
 rintro t33 _ h H ⟨I, _, ⟨b34, b35, b36, rfl, rfl, m37⟩, hk⟩
 replace hs := bk hk ct3 rfl
 refine st 1 [] ?_
 obtain ⟨s39, m40, HR41⟩ := bind_some H
 clear H
 obtain ⟨h38, eh38⟩ : ∃ h', h' = h := ⟨_, rfl⟩
 subst eh38
 refine k_loopW (range_st (p := 16) (enc := fun (x : Int) => iv x) (hs.pk (.c d5 (.c d4 (.c d3 (.c d0 (.c d0 (.c d0 .n))))))) (fun (pre : List Int) L => ∃ (rest : List Int), t33 = pre ++ rest ∧ (field_Begin.l1.m K x0 rest) = some s39 ∧ L = [rR t_api_Cell .b a21 p22 x0.Cells.length x0.Cells, rB b25 [iv x0.Rows, iv x0.Cols, .slice a21 x0.Cells.length p22, iv x0.Cursor, .bool x0.Locked, .bool x0.Insert] 56, rB b26 [iv 0] 3, rB b34 [iv x0.Rows, iv x0.Cols, .slice a21 x0.Cells.length p22, iv x0.Cursor, .bool x0.Locked, .bool x0.Insert] 56, rB b35 [iv x1] 3, rB b36 [iv (-1)] 3]) (mkY (fun L => ∃ (x43 : Int), Sum.inl x43 = s39 ∧ L = [rB b26 [iv x43] 3]) (fun _ _ => False)) ⟨t33, rfl, m40, rfl⟩ (by kernel_rfl) (enters_of Tryz.func306 rfl (by kernel_rfl)) (field_round.iter (a := a21) (p := p22) (n := x0.Cells.length) (b1 := b34) (b2 := b35) (b3 := b36) m37) ?_ (fun x => [(5, iv x), (16, iv x)]) ?_ rfl ?_) ?_ ?_ ?_
 ·rintro o pre L I h' ⟨rest, _, _, rfl⟩ hs
  exact ⟨(hs.bl d4).seg_ 0 6 (Nat.le_of_ble_eq_true rfl), (hs.bl d4).cell (off := 2) rfl, (hs.bl d5).cell (off := 0) rfl, (hs.bl d6).cell (off := 0) rfl, ⟨_, hs.bdG (k := .b), hs.rd d1⟩, rfl⟩
 ·intro x Q h' q
  exact st 3 [] (k_fin2 q)
 ·rintro o pre x42 rest' L I h hx' ⟨rest, hx, H, rfl⟩ hs
  obtain rfl : rest = x42 :: rest' := List.append_cancel_left (hx.symm.trans hx')
  clear hx'
  obtain ⟨rest, erest⟩ : ∃ r, r = rest' := ⟨_, rfl⟩
  subst erest
  rw [field_Begin.l1.m] at H
  refine st 4 [] (k_op (lB (hs.bl d2) 2 rfl ?_))
  obtain ⟨c44, H⟩ := guard_pos H
  obtain ⟨c45, H⟩ := guard_pos H
  refine st 1 [] (k_val (elemPtr a21 (x42.toNat * 6)) (pI (e := 89) (ik := .i64) (hs.sR d1) c44 c45) ?_)
  refine k_val (elemPtr a21 (x42.toNat * 6 + 0)) (pF (off := 0) (hs.sR d1) c44 c45) ?_
  obtain ⟨y47, g46, q48⟩ := (hs.sR d1).toSl.seg c44 c45
  obtain rfl := t_api_Cell.open_ q48
  refine k_op (lC (seg_cell (f := 0) g46 rfl) ?_)
  refine k_spl H (fun c49 H => ?_) (fun c49 H => ?_)
  ·refine st 5 [true] (k_op (sB (v := iv x42) (hs.f d3) cw0 ?_))
   intro h hs
   obtain rfl := si H
   exact st 1 [] (k_retQ ⟨_, I, ⟨x42, rfl, rfl⟩, hs.pk (.c d1 (.c d0 .n))⟩)
  refine st 4 [false] (k_fin ?_)
  exact ⟨_, I, ⟨rest, by simp [hx], H, rfl⟩, hs.pk (.c d0 (.c d0 (.c d0 (.c d0 (.c d0 (.c d0 (.c d0 .n)))))))⟩
 ·intro h2 hk
  have key : ∃ (o : Obj), ∃ I, Sum.inr () = s39 ∧ St E (rQ h38.size (h38.size + 1) o :: [rB b26 [iv 0] 3]) I h2 := by
    rcases hk with ⟨o, L, I, ⟨rest, hx, H, rfl⟩, hs⟩ | ⟨o, L, I, hy, hs⟩
    · obtain rfl : rest = [] := List.append_cancel_left (hx.symm.trans (List.append_nil _).symm)
      rw [field_Begin.l1.m] at H
      obtain rfl := si H
      exact ⟨o, I, rfl, hs.pk (.c d0 (.c d2 .n))⟩
    · exact hy.elim
  obtain ⟨o, I, rfl, hs⟩ := key
  have H := HR41
  try dsimp only at H
  refine st 2 [] (k_op (sB (v := iv (-1)) (hs.f d1) cw0 ?_))
  intro h hs
  refine st 1 [] (k_retQ (krM ?_))
  obtain rfl := si H
  refine ⟨(hs.rqD d1).1, ?_⟩
  replace hs := (hs.f d1).rqe
  exact ⟨[iv (-1)], (.cons (.one (by kernel_rfl) (by kernel_rfl) ((hs.bl d0).cell (off := 0) rfl)) .nil), I, _, ⟨rfl, rfl⟩, hs.pk .n⟩
 ·rintro h2 ⟨o, L, I, ⟨x43, rfl, rfl⟩, hs⟩
  have H := HR41
  try dsimp only at H
  obtain rfl := si H
  refine ⟨(hs.rqD d0).1, ?_⟩
  replace hs := hs.rqe
  exact ⟨[iv x43], (.cons (.one (by kernel_rfl) (by kernel_rfl) ((hs.bl d0).cell (off := 0) rfl)) .nil), I, _, ⟨rfl, rfl⟩, hs.pk .n⟩
 intro i L hy
 exact hy.elim
def field_Of.m (K : Nat) (x0 : api_Screen) (x1 : Int) : Option api_Attr :=
  ((field_Begin.m K x0 x1).bind fun t27 => (if t27 < 0 then (some (⟨false, false, 0, false⟩ : api_Attr)) else (if 0 ≤ t27 then (if t27 < (x0.Cells.length : Int) then (some ((at_ x0.Cells t27).Attr)) else none) else none)))
theorem field_Of.calls {B I : Gh} {h : Heap} {K : Nat} {x0 : api_Screen} {x1 : Int} {a21 : Option Addr} {p22 : Nat} {n23 : Nat} {r : api_Attr} (H : field_Of.m K x0 x1 = some r)  :
    Fc Tryz.prog 286 #[.agg #[iv x0.Rows, iv x0.Cols, .slice a21 n23 p22, iv x0.Cursor, .bool x0.Locked, .bool x0.Insert], iv x1] [rR t_api_Cell .b a21 p22 n23 x0.Cells] B I h (fun v L => v = .agg #[.bool r.Protected, .bool r.Numeric, iv r.Show, .bool r.Modified] ∧ L = []) := by
 refine fc_of fun E hs => ?_
 unfold field_Of.m at H
 cases hs.nR d0
 refine fn_of2 (rs := [.cell 4 87]) (N := 18) Tryz.func286 rfl rfl rfl rfl ?_
 refine st 2 [] (k_op (nB hs [iv x0.Rows, iv x0.Cols, .slice a21 x0.Cells.length p22, iv x0.Cursor, .bool x0.Locked, .bool x0.Insert] ?_))
 intro b25 h hs
 refine k_op (nA hs [.bool false, .bool false, iv 0, .bool false] (.agg #[.bool false, .bool false, iv 0, .bool false]) ?_)
 intro b26 h hs
 refine st 3 [] (k_op (lN (hs.bl d1) 0 6 ?_))
 obtain ⟨hk, bk⟩ := hs.call tk0 (.c (qB d2) .n)
 refine st 1 [] (k_call H (fun _ m => field_Begin.calls m hk) ?_)
 rintro t27 _ h H ⟨I, _, ⟨rfl, rfl⟩, hk⟩
 replace hs := bk hk ct0 rfl
 refine st 6 [] (k_ite H (fun c28 H => ?_) (fun c28 H => ?_))
 ·refine st 5 [true] (k_op (sN0 hs [.bool false, .bool false, iv 0, .bool false] (ones_of rfl) ?_))
  intro h hs
  obtain rfl := si H
  exact st 1 [] (k_retQ ⟨[.agg #[.bool false, .bool false, iv 0, .bool false]], (.cons (.agg (by kernel_rfl) (by kernel_rfl) (by kernel_rfl) ((hs.bl d0).seg_ 0 4 (Nat.le_of_ble_eq_true rfl))) .nil), I, _, ⟨rfl, rfl⟩, hs.pk .n⟩)
 refine st 6 [false] (k_op (lB (hs.bl d1) 2 rfl ?_))
 obtain ⟨c29, H⟩ := guard_pos H
 obtain ⟨c30, H⟩ := guard_pos H
 refine st 1 [] (k_val (elemPtr a21 (t27.toNat * 6)) (pI (e := 89) (ik := .i64) (hs.sR d2) c29 c30) ?_)
 refine k_val (elemPtr a21 (t27.toNat * 6 + 1)) (pF (off := 1) (hs.sR d2) c29 c30) ?_
 obtain ⟨y32, g31, q33⟩ := (hs.sR d2).toSl.seg c29 c30
 obtain rfl := t_api_Cell.open_ q33
 refine k_op (lG (seg_sub (f := 1) (k := 4) g31 rfl) ?_)
 refine k_op (sN0 hs [.bool (((at_ x0.Cells t27).Attr).Protected), .bool (((at_ x0.Cells t27).Attr).Numeric), iv (((at_ x0.Cells t27).Attr).Show), .bool (((at_ x0.Cells t27).Attr).Modified)] (ones_of rfl) ?_)
 intro h hs
 obtain rfl := si H
 exact st 1 [] (k_retQ ⟨[.agg #[.bool (((at_ x0.Cells t27).Attr).Protected), .bool (((at_ x0.Cells t27).Attr).Numeric), iv (((at_ x0.Cells t27).Attr).Show), .bool (((at_ x0.Cells t27).Attr).Modified)]], (.cons (.agg (by kernel_rfl) (by kernel_rfl) (by kernel_rfl) ((hs.bl d0).seg_ 0 4 (Nat.le_of_ble_eq_true rfl))) .nil), I, _, ⟨rfl, rfl⟩, hs.pk .n⟩)
def field_Open.m (K : Nat) (x0 : api_Screen) (x1 : Int) : Option Bool :=
  (if 0 ≤ x1 then (if x1 < (x0.Cells.length : Int) then (bif (at_ x0.Cells x1).Field then (some false) else ((field_Of.m K x0 x1).bind fun t32 => (some (!t32.Protected)))) else none) else none)
theorem field_Open.calls {B I : Gh} {h : Heap} {K : Nat} {x0 : api_Screen} {x1 : Int} {a21 : Option Addr} {p22 : Nat} {n23 : Nat} {r : Bool} (H : field_Open.m K x0 x1 = some r)  :
    Fc Tryz.prog 260 #[.agg #[iv x0.Rows, iv x0.Cols, .slice a21 n23 p22, iv x0.Cursor, .bool x0.Locked, .bool x0.Insert], iv x1] [rR t_api_Cell .b a21 p22 n23 x0.Cells] B I h (fun v L => v = .bool r ∧ L = []) := by
 refine fc_of fun E hs => ?_
 unfold field_Open.m at H
 cases hs.nR d0
 refine fn_of (rs := [.tmp 4]) (N := 19) Tryz.func260 rfl rfl rfl rfl ?_
 refine st 2 [] (k_op (nB hs [iv x0.Rows, iv x0.Cols, .slice a21 x0.Cells.length p22, iv x0.Cursor, .bool x0.Locked, .bool x0.Insert] ?_))
 intro b25 h hs
 refine st 5 [] (k_op (lB (hs.bl d0) 2 rfl ?_))
 obtain ⟨c26, H⟩ := guard_pos H
 obtain ⟨c27, H⟩ := guard_pos H
 refine st 1 [] (k_val (elemPtr a21 (x1.toNat * 6)) (pI (e := 89) (ik := .i64) (hs.sR d1) c26 c27) ?_)
 refine k_val (elemPtr a21 (x1.toNat * 6 + 0)) (pF (off := 0) (hs.sR d1) c26 c27) ?_
 obtain ⟨y29, g28, q30⟩ := (hs.sR d1).toSl.seg c26 c27
 obtain rfl := t_api_Cell.open_ q30
 refine k_op (lC (seg_cell (f := 0) g28 rfl) ?_)
 refine k_spl H (fun c31 H => ?_) (fun c31 H => ?_)
 ·obtain rfl := si H
  exact st 10 [] (k_retQ ⟨_, by kernel_rfl, I, _, ⟨rfl, rfl⟩, hs.pk .n⟩)
 refine st 2 [] (k_op (lN (hs.bl d0) 0 6 ?_))
 obtain ⟨hk, bk⟩ := hs.call tk0 (.c (qB d1) .n)
 refine st 1 [] (k_call H (fun _ m => field_Of.calls m hk) ?_)
 rintro t32 _ h H ⟨I, _, ⟨rfl, rfl⟩, hk⟩
 replace hs := bk hk ct0 rfl
 obtain rfl := si H
 exact st 5 [] (k_retQ ⟨_, by kernel_rfl, I, _, ⟨rfl, rfl⟩, hs.pk .n⟩)
def move_line.l1.m (K : Nat) (x0 : api_Screen) (t28 : (List Int)) : Nat → Int → Option (Int ⊕ (Unit))
  | 0, _ => none
  | k + 1, x33 => (letJ (α := Bool → Option (Int ⊕ (Unit))) (fun (x38 : Bool) => (bif x38 then (if 0 ≤ x33 then (if x33 < (t28.length : Int) then ((field_Open.m K x0 (at_ t28 x33)).bind fun t42 => bif t42 then (some (Sum.inl (at_ t28 x33))) else (move_line.l1.m K x0 t28 k (w64 (x33 + 1)))) else none) else none) else (some (Sum.inr ())))) fun (j39 : Bool → Option (Int ⊕ (Unit))) => (if x33 < (t28.length : Int) then (j39 true) else (j39 false)))
def move_line.m (K : Nat) (x0 : api_Screen) : Option Int :=
  (if x0.Cols ≠ 0 then ((grid_On.m x0 (w64 (x0.Cursor - (Int.tmod x0.Cursor x0.Cols))) x0.Cols).bind fun t27 => ((grid_Span.m K x0 t27 t27).bind fun t28 => ((move_line.l1.m K x0 t28 K 0).bind fun s34 => match s34 with | .inl q => (some q) | .inr _ => (some 0)))) else none)
theorem move_line.calls {B I : Gh} {h : Heap} {K : Nat} {x0 : api_Screen} {a21 : Option Addr} {p22 : Nat} {n23 : Nat} {r : Int} (H : move_line.m K x0 = some r)  :
    Fc Tryz.prog 285 #[.agg #[iv x0.Rows, iv x0.Cols, .slice a21 n23 p22, iv x0.Cursor, .bool x0.Locked, .bool x0.Insert]] [rR t_api_Cell .b a21 p22 n23 x0.Cells] B I h (fun v L => v = iv r ∧ L = []) := by
 refine fc_of fun E hs => ?_
 unfold move_line.m at H
 cases hs.nR d0
 refine fn_of (rs := [.tmp 2]) (N := 32) Tryz.func285 rfl rfl rfl rfl ?_
 refine st 2 [] (k_op (nB hs [iv x0.Rows, iv x0.Cols, .slice a21 x0.Cells.length p22, iv x0.Cursor, .bool x0.Locked, .bool x0.Insert] ?_))
 intro b25 h hs
 refine st 3 [] ?_
 obtain ⟨hs0, bk0⟩ := hs.call tk0 (.c (qL d0) (.c (qB d1) .n))
 have hs := hs0
 refine k_regD hs0 13 ?_
 refine aG 0 rfl hs.keep (lls hs0 d0 0 6 rfl) (nmL hs0 d0) ?_
 refine aRun [1] 11 hs.keep ?_
 refine aL 2 rfl hs.keep (ll hs0 d0 (n := 3) rfl) (nmL hs0 d0) ?_
 refine aRun [3] 9 hs.keep ?_
 refine aL 4 rfl hs.keep (ll hs0 d0 (n := 3) rfl) (nmL hs0 d0) ?_
 refine aRun [5] 7 hs.keep ?_
 refine aL 6 rfl hs.keep (ll hs0 d0 (n := 1) rfl) (nmL hs0 d0) ?_
 obtain ⟨c26, H⟩ := guard_pos H
 refine aP 7 (iv (Int.tmod x0.Cursor x0.Cols)) rfl (pr_rem (k := .i64) (a := x0.Cursor) (b := x0.Cols) (by kernel_rfl) (by kernel_rfl) c26) hs.keep ?_
 refine aRun [8, 9] 3 hs.keep ?_
 refine aL 10 rfl hs.keep (ll hs0 d0 (n := 1) rfl) (nmL hs0 d0) ?_
 obtain ⟨hk, bk⟩ := hs.call tk0 (.c (qB d1) .n)
 refine aO1 11 rfl (o_call H (fun _ m => grid_On.calls m hk) ?_)
 rintro t27 _ h H ⟨I, _, ⟨rfl, rfl⟩, hk⟩
 replace hs := bk hk ct0 rfl
 refine ⟨hs.keep, ?_⟩
 refine aRun [12] 0 hs.keep ?_
 replace hs := hs.pk .n
 replace hs := bk0 hs ct0 rfl
 refine aEnd ?_
 refine st 3 [] (k_op (lN (hs.bl d0) 0 6 ?_))
 obtain ⟨hk, bk⟩ := hs.call tk0 (.c (qB d1) .n)
 refine st 2 [] (k_call H (fun _ m => grid_Span.calls m hk) ?_)
 rintro t28 _ h H ⟨I, _, ⟨a29, p30, n31, rfl, rfl⟩, hk⟩
 replace hs := bk hk ct1 rfl
 cases hs.nO d0
 refine st 4 [] ?_
 obtain ⟨s34, m36, HR35⟩ := bind_some H
 refine k_loopT hs tl0 0 (fun T k' ρ h => ∃ (x33 : Int), ∃ I, move_line.l1.m K x0 t28 k' x33 = some s34 ∧ Fits [(1, pv b25), (21, .slice a29 t28.length p30), (22, iv (t28.length : Int)), (23, iv x33)] ρ ∧ St E T I h) (fun T ρ h => ∃ I, Sum.inr () = s34 ∧ Fits [] ρ ∧ St E T I h) K ⟨0, I, m36, ft, hs⟩ ?_ rfl ?_
 rotate_left
 ·rintro ρ h ⟨I, rfl, hf, hs⟩
  have H := HR35
  try dsimp only at H
  refine k_fits _ hf ?_ rfl
  obtain rfl := si H
  exact st 4 [] (k_retQ ⟨_, by kernel_rfl, I, _, ⟨rfl, rfl⟩, hs.pk .n⟩)
 clear m36 H
 rintro k' ρ h ⟨x33, I, H, hf, hs⟩
 cases k' with
 | zero => cases H
 | succ k =>
  rw [move_line.l1.m] at H
  refine k_fits _ hf ?_ rfl
  refine st 1 [] ?_
  obtain ⟨j39, e43, H⟩ := letJ_some H
  refine k_joinT (fun T ρ h => ∃ (x38 : Bool), ∃ I, j39 x38 = some s34 ∧ Fits [(1, pv b25), (21, .slice a29 t28.length p30), (22, iv (t28.length : Int)), (23, iv x33), (24, .bool x38)] ρ ∧ St E T I h) hs tl0 ?_ ?_
  ·refine st 1 [] (k_ite H (fun c37 H => ?_) (fun c37 H => ?_))
   ·exact st 1 [] (k_end ⟨true, I, H, ft, hs⟩)
   exact st 1 [] (k_end ⟨false, I, H, ft, hs⟩)
  clear H
  rintro ρ h ⟨x38, I, H, hf, hs⟩
  refine k_fits _ hf ?_ rfl
  subst e43
  try dsimp only at H
  cases x38
  ·rw [cond_false] at H
   refine st 2 [false] (k_out rfl ?_)
   obtain rfl := si H
   exact xE ⟨I, rfl, trivial, hs⟩
  rw [cond_true] at H
  obtain ⟨c40, H⟩ := guard_pos H
  obtain ⟨c41, H⟩ := guard_pos H
  refine st 7 [true] (k_val (elemPtr a29 (x33.toNat * 1)) (pI (e := 3) (ik := .i64) (hs.sO d0) c40 c41) ?_)
  refine k_op (lC ((hs.sO d0).cell1 c40 c41) ?_)
  refine st 4 [] (k_op (lN (hs.bl d1) 0 6 ?_))
  obtain ⟨hk, bk⟩ := hs.call tk0 (.c (qB d2) .n)
  refine st 1 [] (k_call H (fun _ m => field_Open.calls m hk) ?_)
  rintro t42 _ h H ⟨I, _, ⟨rfl, rfl⟩, hk⟩
  replace hs := bk hk ct0 rfl
  cases t42
  ·rw [cond_false] at H
   exact st 8 [false] (k_endL ⟨k, Nat.lt_succ_self _, (w64 (x33 + 1)), I, H, ft, hs⟩)
  rw [cond_true] at H
  refine st 7 [true] (k_retQ (krL ?_))
  obtain rfl := si H
  obtain rfl := Option.some.inj HR35
  exact ⟨_, by kernel_rfl, I, _, ⟨rfl, rfl⟩, hs.pk .n⟩
def move_to.m (K : Nat) (x0 : api_Screen) (x1 : Int) : Option Int :=
  (if x1 = 4 then ((grid_On.m x0 x0.Cursor (w64 (0 - x0.Cols))).bind fun t27 => (some t27)) else (if x1 = 2 then ((grid_On.m x0 x0.Cursor (w64 (0 - 1))).bind fun t29 => (some t29)) else (if x1 = 5 then ((grid_On.m x0 x0.Cursor x0.Cols).bind fun t31 => (some t31)) else (if x1 = 3 then ((grid_On.m x0 x0.Cursor 1).bind fun t33 => (some t33)) else (if x1 = 7 then ((field_Prev.m K x0 x0.Cursor).bind fun t35 => (some (mx 0 t35))) else (if x1 = 6 then ((field_Next.m K x0 x0.Cursor).bind fun t37 => (some (mx 0 t37))) else (if x1 = 8 then ((field_Next.m K x0 (w64 ((x0.Cells.length : Int) - 1))).bind fun t39 => (some (mx 0 t39))) else ((move_line.m K x0).bind fun t40 => (some t40)))))))))
theorem move_to.calls {B I : Gh} {h : Heap} {K : Nat} {x0 : api_Screen} {x1 : Int} {a21 : Option Addr} {p22 : Nat} {n23 : Nat} {r : Int} (H : move_to.m K x0 x1 = some r)  :
    Fc Tryz.prog 258 #[.agg #[iv x0.Rows, iv x0.Cols, .slice a21 n23 p22, iv x0.Cursor, .bool x0.Locked, .bool x0.Insert], iv x1] [rR t_api_Cell .b a21 p22 n23 x0.Cells] B I h (fun v L => v = iv r ∧ L = []) := by
 refine fc_of fun E hs => ?_
 unfold move_to.m at H
 cases hs.nR d0
 refine fn_of (rs := [.tmp 4]) (N := 55) Tryz.func258 rfl rfl rfl rfl ?_
 refine st 2 [] (k_op (nB hs [iv x0.Rows, iv x0.Cols, .slice a21 x0.Cells.length p22, iv x0.Cursor, .bool x0.Locked, .bool x0.Insert] ?_))
 intro b25 h hs
 refine st 30 [] (k_ite H (fun c26 H => ?_) (fun c26 H => ?_))
 ·refine st 6 [true] (k_op (lB (hs.bl d0) 1 rfl ?_))
  refine st 6 [] (k_op (lN (hs.bl d0) 0 6 ?_))
  refine st 1 [] (k_op (lB (hs.bl d0) 3 rfl ?_))
  obtain ⟨hk, bk⟩ := hs.call tk0 (.c (qB d1) .n)
  refine st 2 [] (k_call H (fun _ m => grid_On.calls m hk) ?_)
  rintro t27 _ h H ⟨I, _, ⟨rfl, rfl⟩, hk⟩
  replace hs := bk hk ct0 rfl
  obtain rfl := si H
  exact st 2 [] (k_retQ ⟨_, by kernel_rfl, I, _, ⟨rfl, rfl⟩, hs.pk .n⟩)
 refine st 7 [false] (k_ite H (fun c28 H => ?_) (fun c28 H => ?_))
 ·refine st 7 [true] (k_op (lN (hs.bl d0) 0 6 ?_))
  refine st 1 [] (k_op (lB (hs.bl d0) 3 rfl ?_))
  obtain ⟨hk, bk⟩ := hs.call tk0 (.c (qB d1) .n)
  refine st 2 [] (k_call H (fun _ m => grid_On.calls m hk) ?_)
  rintro t29 _ h H ⟨I, _, ⟨rfl, rfl⟩, hk⟩
  replace hs := bk hk ct0 rfl
  obtain rfl := si H
  exact st 2 [] (k_retQ ⟨_, by kernel_rfl, I, _, ⟨rfl, rfl⟩, hs.pk .n⟩)
 refine st 7 [false] (k_ite H (fun c30 H => ?_) (fun c30 H => ?_))
 ·refine st 6 [true] (k_op (lB (hs.bl d0) 1 rfl ?_))
  refine st 6 [] (k_op (lN (hs.bl d0) 0 6 ?_))
  refine st 1 [] (k_op (lB (hs.bl d0) 3 rfl ?_))
  obtain ⟨hk, bk⟩ := hs.call tk0 (.c (qB d1) .n)
  refine st 1 [] (k_call H (fun _ m => grid_On.calls m hk) ?_)
  rintro t31 _ h H ⟨I, _, ⟨rfl, rfl⟩, hk⟩
  replace hs := bk hk ct0 rfl
  obtain rfl := si H
  exact st 2 [] (k_retQ ⟨_, by kernel_rfl, I, _, ⟨rfl, rfl⟩, hs.pk .n⟩)
 refine st 7 [false] (k_ite H (fun c32 H => ?_) (fun c32 H => ?_))
 ·refine st 7 [true] (k_op (lN (hs.bl d0) 0 6 ?_))
  refine st 1 [] (k_op (lB (hs.bl d0) 3 rfl ?_))
  obtain ⟨hk, bk⟩ := hs.call tk0 (.c (qB d1) .n)
  refine st 1 [] (k_call H (fun _ m => grid_On.calls m hk) ?_)
  rintro t33 _ h H ⟨I, _, ⟨rfl, rfl⟩, hk⟩
  replace hs := bk hk ct0 rfl
  obtain rfl := si H
  exact st 2 [] (k_retQ ⟨_, by kernel_rfl, I, _, ⟨rfl, rfl⟩, hs.pk .n⟩)
 refine st 7 [false] (k_ite H (fun c34 H => ?_) (fun c34 H => ?_))
 ·refine st 7 [true] (k_op (lN (hs.bl d0) 0 6 ?_))
  refine st 1 [] (k_op (lB (hs.bl d0) 3 rfl ?_))
  obtain ⟨hk, bk⟩ := hs.call tk0 (.c (qB d1) .n)
  refine k_call H (fun _ m => field_Prev.calls m hk) ?_
  rintro t35 _ h H ⟨I, _, ⟨rfl, rfl⟩, hk⟩
  replace hs := bk hk ct0 rfl
  obtain rfl := si H
  exact st 3 [] (k_retQ ⟨_, by kernel_rfl, I, _, ⟨rfl, rfl⟩, hs.pk .n⟩)
 refine st 7 [false] (k_ite H (fun c36 H => ?_) (fun c36 H => ?_))
 ·refine st 7 [true] (k_op (lN (hs.bl d0) 0 6 ?_))
  refine st 1 [] (k_op (lB (hs.bl d0) 3 rfl ?_))
  obtain ⟨hk, bk⟩ := hs.call tk0 (.c (qB d1) .n)
  refine k_call H (fun _ m => field_Next.calls m hk) ?_
  rintro t37 _ h H ⟨I, _, ⟨rfl, rfl⟩, hk⟩
  replace hs := bk hk ct0 rfl
  obtain rfl := si H
  exact st 3 [] (k_retQ ⟨_, by kernel_rfl, I, _, ⟨rfl, rfl⟩, hs.pk .n⟩)
 refine st 6 [false] (k_ite H (fun c38 H => ?_) (fun c38 H => ?_))
 ·refine st 7 [true] (k_op (lN (hs.bl d0) 0 6 ?_))
  refine st 1 [] (k_op (lB (hs.bl d0) 2 rfl ?_))
  obtain ⟨hk, bk⟩ := hs.call tk0 (.c (qB d1) .n)
  refine st 2 [] (k_call H (fun _ m => field_Next.calls m hk) ?_)
  rintro t39 _ h H ⟨I, _, ⟨rfl, rfl⟩, hk⟩
  replace hs := bk hk ct0 rfl
  obtain rfl := si H
  exact st 3 [] (k_retQ ⟨_, by kernel_rfl, I, _, ⟨rfl, rfl⟩, hs.pk .n⟩)
 refine st 7 [false] (k_op (lN (hs.bl d0) 0 6 ?_))
 obtain ⟨hk, bk⟩ := hs.call tk0 (.c (qB d1) .n)
 refine k_call H (fun _ m => move_line.calls m hk) ?_
 rintro t40 _ h H ⟨I, _, ⟨rfl, rfl⟩, hk⟩
 replace hs := bk hk ct0 rfl
 obtain rfl := si H
 exact st 2 [] (k_retQ ⟨_, by kernel_rfl, I, _, ⟨rfl, rfl⟩, hs.pk .n⟩)
def move_Do.m (K : Nat) (x0 : api_Screen) (x1 : Int) : Option (api_Screen × GoErr) :=
  (letJ (α := Bool → Option (api_Screen × GoErr)) (fun (x28 : Bool) => (bif x28 then (some (x0, (GoErr.no 1))) else (bif x0.Locked then (some (x0, (GoErr.no 7))) else ((grid_Copy.m x0).bind fun t31 => ((move_to.m K t31 x1).bind fun t36 => (some ((⟨t31.Rows, t31.Cols, t31.Cells, t36, t31.Locked, t31.Insert⟩ : api_Screen), GoErr.nil))))))) fun (j29 : Bool → Option (api_Screen × GoErr)) => ((move_Moves.m x1).bind fun t27 => bif t27 then (j29 false) else (j29 true)))
theorem move_Do.calls {B I : Gh} {h : Heap} {K : Nat} {x0 : api_Screen} {x1 : Int} {a21 : Option Addr} {p22 : Nat} {n23 : Nat} {r : (api_Screen × GoErr)} (H : move_Do.m K x0 x1 = some r)  :
    Fc Tryz.prog 226 #[.agg #[iv x0.Rows, iv x0.Cols, .slice a21 n23 p22, iv x0.Cursor, .bool x0.Locked, .bool x0.Insert], iv x1] [rR t_api_Cell .i a21 p22 n23 x0.Cells] B I h (fun v L => ∃ a38 p39 n40 v42, v = .tuple #[.agg #[iv r.1.Rows, iv r.1.Cols, .slice a38 n40 p39, iv r.1.Cursor, .bool r.1.Locked, .bool r.1.Insert], v42] ∧ L = [rR t_api_Cell .i a38 p39 n40 r.1.Cells, rE .i v42 r.2]) := by
 refine fc_of fun E hs => ?_
 unfold move_Do.m at H
 cases hs.nR d0
 refine fn_of2 (rs := [.cell 4 56, .tmp 5]) (N := 24) Tryz.func226 rfl rfl rfl rfl ?_
 refine st 2 [] (k_op (nB hs [iv x0.Rows, iv x0.Cols, .slice a21 x0.Cells.length p22, iv x0.Cursor, .bool x0.Locked, .bool x0.Insert] ?_))
 intro b25 h hs
 refine k_op (nA hs [iv 0, iv 0, .slice none 0 0, iv 0, .bool false, .bool false] (.agg #[iv 0, iv 0, .slice none 0 0, iv 0, .bool false, .bool false]) ?_)
 intro b26 h hs
 refine st 5 [] ?_
 obtain ⟨j29, e37, H⟩ := letJ_some H
 refine k_joinT (fun T ρ h => ∃ (x28 : Bool), ∃ I, j29 x28 = some r ∧ Fits [(1, iv x1), (2, pv b25), (4, pv b26), (6, .bool x28)] ρ ∧ St E T I h) hs tl0 ?_ ?_
 ·refine st 2 [] (k_call H (fun _ m => move_Moves.calls m) ?_)
  rintro t27 _ _ H ⟨rfl, rfl⟩
  cases t27
  ·rw [cond_false] at H
   exact st 3 [] (k_end ⟨true, I, H, ft, hs⟩)
  rw [cond_true] at H
  exact st 3 [] (k_end ⟨false, I, H, ft, hs⟩)
 clear H
 rintro ρ h ⟨x28, I, H, hf, hs⟩
 refine k_fits _ hf ?_ rfl
 subst e37
 try dsimp only at H
 cases x28
 rotate_left
 ·rw [cond_true] at H
  refine st 3 [true] (k_op (lN (hs.bl d1) 0 6 ?_))
  refine st 1 [] (k_op (sN0 hs [iv x0.Rows, iv x0.Cols, .slice a21 x0.Cells.length p22, iv x0.Cursor, .bool x0.Locked, .bool x0.Insert] (ones_of rfl) ?_))
  intro h hs
  obtain rfl := si H
  exact st 2 [] (k_retQ ⟨[.agg #[iv x0.Rows, iv x0.Cols, .slice a21 x0.Cells.length p22, iv x0.Cursor, .bool x0.Locked, .bool x0.Insert], .iface 137 (iv 1)], (.cons (.agg (by kernel_rfl) (by kernel_rfl) (by kernel_rfl) ((hs.bl d0).seg_ 0 6 (Nat.le_of_ble_eq_true rfl))) (.cons (.tmp (by kernel_rfl)) .nil)), I, _, ⟨a21, p22, x0.Cells.length, (.iface 137 (iv 1)), rfl, rfl⟩, hs.pk (.c d2 (.f imEC .n))⟩)
 rw [cond_false] at H
 refine st 4 [false] (k_op (lB (hs.bl d1) 4 rfl ?_))
 refine k_spl H (fun c30 H => ?_) (fun c30 H => ?_)
 ·refine st 5 [true] (k_op (lN (hs.bl d1) 0 6 ?_))
  refine st 1 [] (k_op (sN0 hs [iv x0.Rows, iv x0.Cols, .slice a21 x0.Cells.length p22, iv x0.Cursor, .bool x0.Locked, .bool x0.Insert] (ones_of rfl) ?_))
  intro h hs
  obtain rfl := si H
  exact st 2 [] (k_retQ ⟨[.agg #[iv x0.Rows, iv x0.Cols, .slice a21 x0.Cells.length p22, iv x0.Cursor, .bool x0.Locked, .bool x0.Insert], .iface 137 (iv 7)], (.cons (.agg (by kernel_rfl) (by kernel_rfl) (by kernel_rfl) ((hs.bl d0).seg_ 0 6 (Nat.le_of_ble_eq_true rfl))) (.cons (.tmp (by kernel_rfl)) .nil)), I, _, ⟨a21, p22, x0.Cells.length, (.iface 137 (iv 7)), rfl, rfl⟩, hs.pk (.c d2 (.f imEC .n))⟩)
 refine st 7 [false] (k_op (lN (hs.bl d1) 0 6 ?_))
 obtain ⟨hk, bk⟩ := hs.call tk0 (.c (qI d2) .n)
 refine k_call H (fun _ m => grid_Copy.calls m hk) ?_
 rintro t31 _ h H ⟨I, _, ⟨a32, p33, n34, rfl, rfl⟩, hk⟩
 replace hs := bk hk ct1 rfl
 cases hs.nO d0
 refine k_op (sN0 (hs.f d2) [iv t31.Rows, iv t31.Cols, .slice a32 t31.Cells.length p33, iv t31.Cursor, .bool t31.Locked, .bool t31.Insert] (ones_of rfl) ?_)
 intro h hs
 refine st 3 [] (k_op (lN (hs.bl d0) 0 6 ?_))
 obtain ⟨hk, bk⟩ := hs.call tk0 (.c (qO d1) .n)
 refine st 1 [] (k_call H (fun _ m => move_to.calls m hk) ?_)
 rintro t36 _ h H ⟨I, _, ⟨rfl, rfl⟩, hk⟩
 replace hs := bk hk ct0 rfl
 refine st 1 [] (k_op (sB (v := iv t36) hs cw3 ?_))
 intro h hs
 refine st 3 [] (k_op (lN (hs.bl d0) 0 6 ?_))
 refine k_op (sN0 (hs.f d2) [iv t31.Rows, iv t31.Cols, .slice a32 t31.Cells.length p33, iv t36, .bool t31.Locked, .bool t31.Insert] (ones_of rfl) ?_)
 intro h hs
 obtain rfl := si H
 obtain ⟨I, hs⟩ := (hs.f d2).fO
 exact st 2 [] (k_retQ ⟨[.agg #[iv t31.Rows, iv t31.Cols, .slice a32 t31.Cells.length p33, iv t36, .bool t31.Locked, .bool t31.Insert], .nilIface], (.cons (.agg (by kernel_rfl) (by kernel_rfl) (by kernel_rfl) ((hs.bl d1).seg_ 0 6 (Nat.le_of_ble_eq_true rfl))) (.cons (.tmp (by kernel_rfl)) .nil)), I, _, ⟨a32, p33, t31.Cells.length, (.nilIface), rfl, rfl⟩, hs.pk (.c d0 (.f imEN .n))⟩)
def wipe_Wipes.m (x0 : Int) : Option Bool :=
  (if x0 ≥ 12 then (some (decide (x0 ≤ 14))) else (some false))
theorem wipe_Wipes.calls {x0 : Int} {h : Heap} {r : Bool} (H : wipe_Wipes.m x0 = some r)   :
    Ret Tryz.prog 227 #[iv x0] h (fun v h' => .bool r = v ∧ h' = h) := by
 unfold wipe_Wipes.m at H
 refine fn_of (rs := [.tmp 2]) (N := 9) Tryz.func227 rfl rfl rfl rfl ?_
 refine st 7 [] (k_ite H (fun c21 H => ?_) (fun c21 H => ?_))
 ·obtain rfl := si H
  exact st 6 [] (k_retQ ⟨_, by kernel_rfl, rfl, rfl⟩)
 obtain rfl := si H
 exact st 6 [] (k_retQ ⟨_, by kernel_rfl, rfl, rfl⟩)
def host_Reset.l1.m (K : Nat) (x1 : Bool) (t27 : api_Screen) : Nat → (List api_Cell) → Int → Option ((List api_Cell))
  | 0, _, _ => none
  | k + 1, x32, x37 => (letJ (α := Bool → Option ((List api_Cell))) (fun (x47 : Bool) => (bif x47 then (if 0 ≤ x37 then (if x37 < (x32.length : Int) then (bif x1 then (host_Reset.l1.m K x1 t27 k (x32.set x37.toNat (⟨(at_ x32 x37).Field, (⟨((at_ x32 x37).Attr).Protected, ((at_ x32 x37).Attr).Numeric, ((at_ x32 x37).Attr).Show, false⟩ : api_Attr), (at_ x32 x37).Char⟩ : api_Cell)) (w64 (x37 + 1))) else (bif ((at_ x32 x37).Attr).Protected then (host_Reset.l1.m K x1 t27 k x32 (w64 (x37 + 1))) else (host_Reset.l1.m K x1 t27 k (x32.set x37.toNat (⟨(at_ x32 x37).Field, (⟨((at_ x32 x37).Attr).Protected, ((at_ x32 x37).Attr).Numeric, ((at_ x32 x37).Attr).Show, false⟩ : api_Attr), (at_ x32 x37).Char⟩ : api_Cell)) (w64 (x37 + 1))))) else none) else none) else (some (x32)))) fun (j48 : Bool → Option ((List api_Cell))) => (if x37 < (t27.Cells.length : Int) then (j48 true) else (j48 false)))
def host_Reset.m (K : Nat) (x0 : api_Screen) (x1 : Bool) : Option api_Screen :=
  ((grid_Copy.m x0).bind fun t27 => ((host_Reset.l1.m K x1 t27 K t27.Cells 0).bind fun x39 => (some (⟨t27.Rows, t27.Cols, x39, t27.Cursor, t27.Locked, t27.Insert⟩ : api_Screen))))
theorem host_Reset.calls {B I : Gh} {h : Heap} {K : Nat} {x0 : api_Screen} {x1 : Bool} {a21 : Option Addr} {p22 : Nat} {n23 : Nat} {r : api_Screen} (H : host_Reset.m K x0 x1 = some r)  :
    Fc Tryz.prog 238 #[.agg #[iv x0.Rows, iv x0.Cols, .slice a21 n23 p22, iv x0.Cursor, .bool x0.Locked, .bool x0.Insert], .bool x1] [rR t_api_Cell .b a21 p22 n23 x0.Cells] B I h (fun v L => ∃ a64 p65 n66, v = .agg #[iv r.Rows, iv r.Cols, .slice a64 n66 p65, iv r.Cursor, .bool r.Locked, .bool r.Insert] ∧ L = [rO t_api_Cell .i a64 p65 n66 r.Cells]) := by
 refine fc_of fun E hs => ?_
 unfold host_Reset.m at H
 cases hs.nR d0
 refine fn_of2 (rs := [.cell 4 56]) (N := 32) Tryz.func238 rfl rfl rfl rfl ?_
 refine st 2 [] (k_op (nB hs [iv x0.Rows, iv x0.Cols, .slice a21 x0.Cells.length p22, iv x0.Cursor, .bool x0.Locked, .bool x0.Insert] ?_))
 intro b25 h hs
 refine k_op (nA hs [iv 0, iv 0, .slice none 0 0, iv 0, .bool false, .bool false] (.agg #[iv 0, iv 0, .slice none 0 0, iv 0, .bool false, .bool false]) ?_)
 intro b26 h hs
 refine st 3 [] (k_op (lN (hs.bl d1) 0 6 ?_))
 obtain ⟨hk, bk⟩ := hs.call tk0 (.c (qB d2) .n)
 refine k_call H (fun _ m => grid_Copy.calls m hk) ?_
 rintro t27 _ h H ⟨I, _, ⟨a28, p29, n30, rfl, rfl⟩, hk⟩
 replace hs := bk hk ct1 rfl
 cases hs.nO d0
 refine k_op (sN0 (hs.f d2) [iv t27.Rows, iv t27.Cols, .slice a28 t27.Cells.length p29, iv t27.Cursor, .bool t27.Locked, .bool t27.Insert] (ones_of rfl) ?_)
 intro h hs
 refine st 5 [] (k_op (lB (hs.bl d0) 2 rfl ?_))
 refine st 4 [] ?_
 obtain ⟨s38, m45, HR44⟩ := bind_some H
 refine k_loopT hs tl2 0 (fun T k' ρ h => ∃ (x32 : List api_Cell) (x37 : Int), ∃ a33 p34 n35 I, host_Reset.l1.m K x1 t27 k' x32 x37 = some s38 ∧ Fits [(1, .bool x1), (2, pv b25), (4, pv b26), (10, .slice a33 n35 p34), (11, iv (t27.Cells.length : Int)), (12, iv x37)] ρ ∧ St E (rO t_api_Cell .i a33 p34 n35 x32 :: rB b25 [iv t27.Rows, iv t27.Cols, .slice a33 n35 p34, iv t27.Cursor, .bool t27.Locked, .bool t27.Insert] 56 :: T) I h) (fun T ρ h => ∃ (x39 : List api_Cell), ∃ a40 p41 n42 I, x39 = s38 ∧ Fits [(2, pv b25), (4, pv b26)] ρ ∧ St E (rO t_api_Cell .i a40 p41 n42 x39 :: rB b25 [iv t27.Rows, iv t27.Cols, .slice a40 n42 p41, iv t27.Cursor, .bool t27.Locked, .bool t27.Insert] 56 :: T) I h) K ⟨t27.Cells, 0, a28, p29, t27.Cells.length, I, m45, ft, hs.pk (.c d1 (.c d0 pk0))⟩ ?_ rfl ?_
 rotate_left
 ·rintro ρ h ⟨x39, a40, p41, n42, I, rfl, hf, hs⟩
  have H := HR44
  try dsimp only at H
  refine k_fits _ hf ?_ rfl
  cases hs.nO d0
  refine st 2 [] (k_op (lN (hs.bl d1) 0 6 ?_))
  refine k_op (sN0 (hs.f d2) [iv t27.Rows, iv t27.Cols, .slice a40 x39.length p41, iv t27.Cursor, .bool t27.Locked, .bool t27.Insert] (ones_of rfl) ?_)
  intro h hs
  obtain rfl := si H
  exact st 1 [] (k_retQ ⟨[.agg #[iv t27.Rows, iv t27.Cols, .slice a40 x39.length p41, iv t27.Cursor, .bool t27.Locked, .bool t27.Insert]], (.cons (.agg (by kernel_rfl) (by kernel_rfl) (by kernel_rfl) ((hs.bl d0).seg_ 0 6 (Nat.le_of_ble_eq_true rfl))) .nil), I, _, ⟨a40, p41, x39.length, rfl, rfl⟩, hs.pk (.c d1 .n)⟩)
 clear HR44 m45 H
 rintro k' ρ h ⟨x32, x37, a33, p34, n35, I, H, hf, hs⟩
 cases k' with
 | zero => cases H
 | succ k =>
  rw [host_Reset.l1.m] at H
  refine k_fits _ hf ?_ rfl
  cases hs.nO d0
  refine st 1 [] ?_
  obtain ⟨j48, e63, H⟩ := letJ_some H
  refine k_joinT (fun T ρ h => ∃ (x47 : Bool), ∃ I, j48 x47 = some s38 ∧ Fits [(1, .bool x1), (2, pv b25), (4, pv b26), (10, .slice a33 x32.length p34), (11, iv (t27.Cells.length : Int)), (12, iv x37), (13, .bool x47)] ρ ∧ St E T I h) hs tl0 ?_ ?_
  ·refine st 1 [] (k_ite H (fun c46 H => ?_) (fun c46 H => ?_))
   ·exact st 1 [] (k_end ⟨true, I, H, ft, hs⟩)
   exact st 1 [] (k_end ⟨false, I, H, ft, hs⟩)
  clear H
  rintro ρ h ⟨x47, I, H, hf, hs⟩
  refine k_fits _ hf ?_ rfl
  subst e63
  try dsimp only at H
  cases x47
  ·rw [cond_false] at H
   refine st 2 [false] (k_out rfl ?_)
   obtain rfl := si H
   exact xE ⟨x32, a33, p34, x32.length, I, rfl, ft, hs.pk (.c d0 (.c d0 pk0))⟩
  rw [cond_true] at H
  obtain ⟨c49, H⟩ := guard_pos H
  obtain ⟨c50, H⟩ := guard_pos H
  refine st 8 [true] (k_val (elemPtr a33 (x37.toNat * 6)) (pI (e := 89) (ik := .i64) (hs.sO d0) c49 c50) ?_)
  obtain ⟨y52, g51, q53⟩ := (hs.sO d0).toSl.seg c49 c50
  obtain rfl := t_api_Cell.open_ q53
  refine k_op (lG g51 ?_)
  refine k_op (nA hs [.bool false, .bool false, .bool false, iv 0, .bool false, .int .u8 0] (.agg #[.bool false, .bool false, .bool false, iv 0, .bool false, .int .u8 0]) ?_)
  intro b54 h hs
  refine st 1 [] (k_op (sN0 hs [.bool ((at_ x32 x37).Field), .bool (((at_ x32 x37).Attr).Protected), .bool (((at_ x32 x37).Attr).Numeric), iv (((at_ x32 x37).Attr).Show), .bool (((at_ x32 x37).Attr).Modified), .int .u8 ((at_ x32 x37).Char)] (ones_of rfl) ?_))
  intro h hs
  refine st 3 [] (k_if H (fun c55 H => ?_) (fun c55 H => ?_))
  ·refine st 10 [true] (k_op (lB (hs.bl d2) 2 rfl ?_))
   refine st 1 [] (k_val (elemPtr a33 (x37.toNat * 6)) (pI (e := 89) (ik := .i64) (hs.sO d1) c49 c50) ?_)
   refine k_val (elemPtr a33 (x37.toNat * 6 + 1)) (pF (off := 1) (hs.sO d1) c49 c50) ?_
   refine k_val (elemPtr a33 (x37.toNat * 6 + 1 + 3)) (pF (off := 3) (hs.sO d1) c49 c50) ?_
   obtain ⟨y57, g56, q58⟩ := (hs.sO d1).toSl.seg c49 c50
   obtain rfl := t_api_Cell.open_ q58
   replace hs := (hs.f d1)
   refine k_op (sE hs 4 [.bool false] (⟨(at_ x32 x37).Field, (⟨((at_ x32 x37).Attr).Protected, ((at_ x32 x37).Attr).Numeric, ((at_ x32 x37).Attr).Show, false⟩ : api_Attr), (at_ x32 x37).Char⟩ : api_Cell) c49 c50 g56 (ones_of rfl) rfl ?_)
   intro h hs
   exact st 6 [] (k_endL ⟨k, Nat.lt_succ_self _, (x32.set x37.toNat (⟨(at_ x32 x37).Field, (⟨((at_ x32 x37).Attr).Protected, ((at_ x32 x37).Attr).Numeric, ((at_ x32 x37).Attr).Show, false⟩ : api_Attr), (at_ x32 x37).Char⟩ : api_Cell)), (w64 (x37 + 1)), a33, p34, x32.length, I, H, ft, hs.pk (.c d0 (.c d1 pk1))⟩)
  refine st 3 [] (k_op (lB (hs.bl d0) 1 rfl ?_))
  refine k_spl H (fun c59 H => ?_) (fun c59 H => ?_)
  ·exact st 10 [false] (k_endL ⟨k, Nat.lt_succ_self _, x32, (w64 (x37 + 1)), a33, p34, x32.length, I, H, ft, hs.pk (.c d1 (.c d1 pk1))⟩)
  refine st 6 [true] (k_op (lB (hs.bl d2) 2 rfl ?_))
  refine st 1 [] (k_val (elemPtr a33 (x37.toNat * 6)) (pI (e := 89) (ik := .i64) (hs.sO d1) c49 c50) ?_)
  refine k_val (elemPtr a33 (x37.toNat * 6 + 1)) (pF (off := 1) (hs.sO d1) c49 c50) ?_
  refine k_val (elemPtr a33 (x37.toNat * 6 + 1 + 3)) (pF (off := 3) (hs.sO d1) c49 c50) ?_
  obtain ⟨y61, g60, q62⟩ := (hs.sO d1).toSl.seg c49 c50
  obtain rfl := t_api_Cell.open_ q62
  replace hs := (hs.f d1)
  refine k_op (sE hs 4 [.bool false] (⟨(at_ x32 x37).Field, (⟨((at_ x32 x37).Attr).Protected, ((at_ x32 x37).Attr).Numeric, ((at_ x32 x37).Attr).Show, false⟩ : api_Attr), (at_ x32 x37).Char⟩ : api_Cell) c49 c50 g60 (ones_of rfl) rfl ?_)
  intro h hs
  exact st 6 [] (k_endL ⟨k, Nat.lt_succ_self _, (x32.set x37.toNat (⟨(at_ x32 x37).Field, (⟨((at_ x32 x37).Attr).Protected, ((at_ x32 x37).Attr).Numeric, ((at_ x32 x37).Attr).Show, false⟩ : api_Attr), (at_ x32 x37).Char⟩ : api_Cell)), (w64 (x37 + 1)), a33, p34, x32.length, I, H, ft, hs.pk (.c d0 (.c d1 pk1))⟩)
def wipe_all.l1.m (K : Nat) (x0 : api_Screen) : Nat → Int → (List api_Cell) → Option ((List api_Cell))
  | 0, _, _ => none
  | k + 1, x33, x34 => (letJ (α := Bool → Option ((List api_Cell))) (fun (x48 : Bool) => (bif x48 then ((field_Open.m K x0 x33).bind fun t50 => bif t50 then (if 0 ≤ x33 then (if x33 < (x34.length : Int) then (wipe_all.l1.m K x0 k (w64 (x33 + 1)) (x34.set x33.toNat (⟨(at_ x34 x33).Field, ((at_ x34 x33).Attr), 0⟩ : api_Cell))) else none) else none) else (wipe_all.l1.m K x0 k (w64 (x33 + 1)) x34)) else (some (x34)))) fun (j49 : Bool → Option ((List api_Cell))) => (if x33 < (x0.Cells.length : Int) then (j49 true) else (j49 false)))
def wipe_all.m (K : Nat) (x0 : api_Screen) : Option api_Screen :=
  ((host_Reset.m K x0 false).bind fun t27 => ((wipe_all.l1.m K x0 K 0 t27.Cells).bind fun x40 => ((grid_Size.m x0).bind fun t57 => ((field_Next.m K x0 (w64 (t57 - 1))).bind fun t58 => (some (⟨t27.Rows, t27.Cols, x40, (mx 0 t58), t27.Locked, t27.Insert⟩ : api_Screen))))))
theorem wipe_all.calls {B I : Gh} {h : Heap} {K : Nat} {x0 : api_Screen} {a21 : Option Addr} {p22 : Nat} {n23 : Nat} {r : api_Screen} (H : wipe_all.m K x0 = some r)  :
    Fc Tryz.prog 259 #[.agg #[iv x0.Rows, iv x0.Cols, .slice a21 n23 p22, iv x0.Cursor, .bool x0.Locked, .bool x0.Insert]] [rR t_api_Cell .b a21 p22 n23 x0.Cells] B I h (fun v L => ∃ a59 p60 n61, v = .agg #[iv r.Rows, iv r.Cols, .slice a59 n61 p60, iv r.Cursor, .bool r.Locked, .bool r.Insert] ∧ L = [rO t_api_Cell .i a59 p60 n61 r.Cells]) := by
 refine fc_of fun E hs => ?_
 unfold wipe_all.m at H
 cases hs.nR d0
 refine fn_of2 (rs := [.cell 2 56]) (N := 30) Tryz.func259 rfl rfl rfl rfl ?_
 refine st 2 [] (k_op (nB hs [iv x0.Rows, iv x0.Cols, .slice a21 x0.Cells.length p22, iv x0.Cursor, .bool x0.Locked, .bool x0.Insert] ?_))
 intro b25 h hs
 refine k_op (nA hs [iv 0, iv 0, .slice none 0 0, iv 0, .bool false, .bool false] (.agg #[iv 0, iv 0, .slice none 0 0, iv 0, .bool false, .bool false]) ?_)
 intro b26 h hs
 refine st 3 [] (k_op (lN (hs.bl d1) 0 6 ?_))
 obtain ⟨hk, bk⟩ := hs.call tk0 (.c (qB d2) .n)
 refine k_call H (fun _ m => host_Reset.calls m hk) ?_
 rintro t27 _ h H ⟨I, _, ⟨a28, p29, n30, rfl, rfl⟩, hk⟩
 replace hs := bk hk ct1 rfl
 cases hs.nO d0
 refine k_op (nA hs [iv 0, iv 0, .slice none 0 0, iv 0, .bool false, .bool false] (.agg #[iv 0, iv 0, .slice none 0 0, iv 0, .bool false, .bool false]) ?_)
 intro b32 h hs
 refine k_op (sN0 hs [iv t27.Rows, iv t27.Cols, .slice a28 t27.Cells.length p29, iv t27.Cursor, .bool t27.Locked, .bool t27.Insert] (ones_of rfl) ?_)
 intro h hs
 refine st 5 [] (k_op (lB (hs.bl d3) 2 rfl ?_))
 refine st 4 [] ?_
 obtain ⟨s39, m46, HR45⟩ := bind_some H
 refine k_loopT hs tl2 0 (fun T k' ρ h => ∃ (x33 : Int) (x34 : List api_Cell), ∃ a35 p36 n37 I, wipe_all.l1.m K x0 k' x33 x34 = some s39 ∧ Fits [(1, pv b25), (2, pv b26), (3, pv b32), (9, iv (x0.Cells.length : Int)), (10, iv x33)] ρ ∧ St E (rO t_api_Cell .i a35 p36 n37 x34 :: rB b32 [iv t27.Rows, iv t27.Cols, .slice a35 n37 p36, iv t27.Cursor, .bool t27.Locked, .bool t27.Insert] 56 :: T) I h) (fun T ρ h => ∃ (x40 : List api_Cell), ∃ a41 p42 n43 I, x40 = s39 ∧ Fits [(1, pv b25), (2, pv b26), (3, pv b32)] ρ ∧ St E (rO t_api_Cell .i a41 p42 n43 x40 :: rB b32 [iv t27.Rows, iv t27.Cols, .slice a41 n43 p42, iv t27.Cursor, .bool t27.Locked, .bool t27.Insert] 56 :: T) I h) K ⟨0, t27.Cells, a28, p29, t27.Cells.length, I, m46, ft, hs.pk (.c d1 (.c d0 pk0))⟩ ?_ rfl ?_
 rotate_left
 ·rintro ρ h ⟨x40, a41, p42, n43, I, rfl, hf, hs⟩
  have H := HR45
  try dsimp only at H
  refine k_fits _ hf ?_ rfl
  cases hs.nO d0
  refine st 1 [] ?_
  obtain ⟨hs0, bk0⟩ := hs.call tk0 (.c (qL d3) (.c (qB d4) .n))
  have hs := hs0
  refine k_regD hs0 7 ?_
  refine aG 0 rfl hs.keep (lls hs0 d0 0 6 rfl) (nmL hs0 d0) ?_
  refine aG 1 rfl hs.keep (lls hs0 d0 0 6 rfl) (nmL hs0 d0) ?_
  obtain ⟨hk, bk⟩ := hs.call tk0 (.c (qB d1) .n)
  refine aO1 2 rfl (o_call H (fun _ m => grid_Size.calls m hk) ?_)
  rintro t57 _ h H ⟨I, _, ⟨rfl, rfl⟩, hk⟩
  replace hs := bk hk ct0 rfl
  refine ⟨hs.keep, ?_⟩
  refine aRun [3] 4 hs.keep ?_
  obtain ⟨hk, bk⟩ := hs.call tk0 (.c (qB d1) .n)
  refine aO1 4 rfl (o_call H (fun _ m => field_Next.calls m hk) ?_)
  rintro t58 _ h H ⟨I, _, ⟨rfl, rfl⟩, hk⟩
  replace hs := bk hk ct0 rfl
  refine ⟨hs.keep, ?_⟩
  refine aRun [5, 6] 1 hs.keep ?_
  replace hs := hs.pk .n
  replace hs := bk0 hs ct0 rfl
  refine aOL 7 rfl (sB (v := iv (mx 0 t58)) (hs.f d1) cw3 ?_)
  intro h hs
  refine aEnd ?_
  refine st 2 [] (k_op (lN (hs.bl d0) 0 6 ?_))
  refine k_op (sN0 (hs.f d2) [iv t27.Rows, iv t27.Cols, .slice a41 x40.length p42, iv (mx 0 t58), .bool t27.Locked, .bool t27.Insert] (ones_of rfl) ?_)
  intro h hs
  obtain rfl := si H
  exact st 1 [] (k_retQ ⟨[.agg #[iv t27.Rows, iv t27.Cols, .slice a41 x40.length p42, iv (mx 0 t58), .bool t27.Locked, .bool t27.Insert]], (.cons (.agg (by kernel_rfl) (by kernel_rfl) (by kernel_rfl) ((hs.bl d0).seg_ 0 6 (Nat.le_of_ble_eq_true rfl))) .nil), I, _, ⟨a41, p42, x40.length, rfl, rfl⟩, hs.pk (.c d2 .n)⟩)
 clear HR45 m46 H
 rintro k' ρ h ⟨x33, x34, a35, p36, n37, I, H, hf, hs⟩
 cases k' with
 | zero => cases H
 | succ k =>
  rw [wipe_all.l1.m] at H
  refine k_fits _ hf ?_ rfl
  cases hs.nO d0
  refine st 1 [] ?_
  obtain ⟨j49, e56, H⟩ := letJ_some H
  refine k_joinT (fun T ρ h => ∃ (x48 : Bool), ∃ I, j49 x48 = some s39 ∧ Fits [(1, pv b25), (2, pv b26), (3, pv b32), (9, iv (x0.Cells.length : Int)), (10, iv x33), (11, .bool x48)] ρ ∧ St E T I h) hs tl0 ?_ ?_
  ·refine st 1 [] (k_ite H (fun c47 H => ?_) (fun c47 H => ?_))
   ·exact st 1 [] (k_end ⟨true, I, H, ft, hs⟩)
   exact st 1 [] (k_end ⟨false, I, H, ft, hs⟩)
  clear H
  rintro ρ h ⟨x48, I, H, hf, hs⟩
  refine k_fits _ hf ?_ rfl
  subst e56
  try dsimp only at H
  cases x48
  ·rw [cond_false] at H
   refine st 2 [false] (k_out rfl ?_)
   obtain rfl := si H
   exact xE ⟨x34, a35, p36, x34.length, I, rfl, ft, hs.pk (.c d0 (.c d0 pk0))⟩
  rw [cond_true] at H
  refine st 12 [true] (k_op (lN (hs.bl d3) 0 6 ?_))
  obtain ⟨hk, bk⟩ := hs.call tk0 (.c (qB d4) .n)
  refine st 1 [] (k_call H (fun _ m => field_Open.calls m hk) ?_)
  rintro t50 _ h H ⟨I, _, ⟨rfl, rfl⟩, hk⟩
  replace hs := bk hk ct0 rfl
  cases t50
  ·rw [cond_false] at H
   exact st 8 [false] (k_endL ⟨k, Nat.lt_succ_self _, (w64 (x33 + 1)), x34, a35, p36, x34.length, I, H, ft, hs.pk (.c d0 (.c d0 pk0))⟩)
  rw [cond_true] at H
  refine st 4 [true] (k_op (lB (hs.bl d1) 2 rfl ?_))
  obtain ⟨c51, H⟩ := guard_pos H
  obtain ⟨c52, H⟩ := guard_pos H
  refine st 1 [] (k_val (elemPtr a35 (x33.toNat * 6)) (pI (e := 89) (ik := .i64) (hs.sO d0) c51 c52) ?_)
  refine k_val (elemPtr a35 (x33.toNat * 6 + 5)) (pF (off := 5) (hs.sO d0) c51 c52) ?_
  obtain ⟨y54, g53, q55⟩ := (hs.sO d0).toSl.seg c51 c52
  obtain rfl := t_api_Cell.open_ q55
  refine k_op (sE hs 5 [.int .u8 0] (⟨(at_ x34 x33).Field, ((at_ x34 x33).Attr), 0⟩ : api_Cell) c51 c52 g53 (ones_of rfl) rfl ?_)
  intro h hs
  exact st 6 [] (k_endL ⟨k, Nat.lt_succ_self _, (w64 (x33 + 1)), (x34.set x33.toNat (⟨(at_ x34 x33).Field, ((at_ x34 x33).Attr), 0⟩ : api_Cell)), a35, p36, x34.length, I, H, ft, hs.pk (.c d0 (.c d0 pk0))⟩)
end Go.Proofs.YtjkbhpokboolpaaGreatDoor.Sx
