import Derived.Test.YtjkbhpokboolpaaGreatDoorProg
import Derived.Test.YtjkbhpokboolpaaGreatDoorV4
import Derived.Test.YtjkbhpokboolpaaGreatDoorV5
import Derived.Test.YtjkbhpokboolpaaGreatDoorVF
import Derived.Test.YtjkbhpokboolpaaGreatDoorV6
import Derived.Test.YtjkbhpokboolpaaGreatDoorV7
import Derived.Test.YtjkbhpokboolpaaGreatDoorV9
import Derived.Test.YtjkbhpokboolpaaGreatDoorVD
import Derived.Test.YtjkbhpokboolpaaGreatDoorVC
namespace Go.Proofs.YtjkbhpokboolpaaGreatDoor.Sx
open Go
set_option maxRecDepth 100000
set_option maxHeartbeats 4000000
structure api_Mail where
  From : ByteArray
  To : Int
  Goal : ByteArray
  Bytes : (List Int)
  deriving DecidableEq, Inhabited
def t_api_Mail : Ty api_Mail where
  size := 4
  rep I h cs x := ∃ a_3, ∃ c_3, ∃ n_3, cs = [.string x.From, .int .i64 x.To, .string x.Goal, .slice a_3 n_3 c_3] ∧ (Rd (tInt .u8) I h a_3 c_3 x.Bytes ∧ x.Bytes.length = n_3)
  len := by rintro _ _ _ _ ⟨_, _, _, rfl, _⟩; rfl
  one := by
    rintro _ _ _ _ ⟨e0, e1, e2, rfl, q0⟩ v hv
    simp only [List.mem_cons, List.not_mem_nil, or_false] at hv
    rcases hv with rfl | rfl | rfl | rfl
    · exact rfl
    · exact rfl
    · exact rfl
    · exact rfl
  up := by rintro _ _ _ _ _ _ u ⟨e0, e1, e2, rfl, q0⟩; exact ⟨e0, e1, e2, rfl, ⟨q0.1.up u, q0.2⟩⟩
theorem t_api_Mail.open_ {I : Gh} {h : Heap} {cs : List Value} {x : api_Mail} (r : t_api_Mail.rep I h cs x) : ∃ a_3, ∃ c_3, ∃ n_3, cs = [.string x.From, .int .i64 x.To, .string x.Goal, .slice a_3 n_3 c_3] ∧ (Rd (tInt .u8) I h a_3 c_3 x.Bytes ∧ x.Bytes.length = n_3) := r
structure net_flight where
  m' : api_Mail
  to' : Int
  deriving DecidableEq, Inhabited
def t_net_flight : Ty net_flight where
  size := 5
  rep I h cs x := ∃ a_0_3, ∃ c_0_3, ∃ n_0_3, cs = [.string x.m'.From, .int .i64 x.m'.To, .string x.m'.Goal, .slice a_0_3 n_0_3 c_0_3, .int .i64 x.to'] ∧ (Rd (tInt .u8) I h a_0_3 c_0_3 x.m'.Bytes ∧ x.m'.Bytes.length = n_0_3)
  len := by rintro _ _ _ _ ⟨_, _, _, rfl, _⟩; rfl
  one := by
    rintro _ _ _ _ ⟨e0, e1, e2, rfl, q0⟩ v hv
    simp only [List.mem_cons, List.not_mem_nil, or_false] at hv
    rcases hv with rfl | rfl | rfl | rfl | rfl
    · exact rfl
    · exact rfl
    · exact rfl
    · exact rfl
    · exact rfl
  up := by rintro _ _ _ _ _ _ u ⟨e0, e1, e2, rfl, q0⟩; exact ⟨e0, e1, e2, rfl, ⟨q0.1.up u, q0.2⟩⟩
theorem t_net_flight.open_ {I : Gh} {h : Heap} {cs : List Value} {x : net_flight} (r : t_net_flight.rep I h cs x) : ∃ a_0_3, ∃ c_0_3, ∃ n_0_3, cs = [.string x.m'.From, .int .i64 x.m'.To, .string x.m'.Goal, .slice a_0_3 n_0_3 c_0_3, .int .i64 x.to'] ∧ (Rd (tInt .u8) I h a_0_3 c_0_3 x.m'.Bytes ∧ x.m'.Bytes.length = n_0_3) := r
structure net_Air where
  l' : (List net_flight)
  deriving DecidableEq, Inhabited
structure api_Attr where
  Protected : Bool
  Numeric : Bool
  Show : Int
  Modified : Bool
  deriving DecidableEq, Inhabited
def t_api_Attr : Ty api_Attr where
  size := 4
  rep I h cs x := cs = [.bool x.Protected, .bool x.Numeric, .int .i64 x.Show, .bool x.Modified]
  len := by rintro _ _ _ _ rfl; rfl
  one := by
    rintro _ _ _ _ rfl v hv
    simp only [List.mem_cons, List.not_mem_nil, or_false] at hv
    rcases hv with rfl | rfl | rfl | rfl
    · exact rfl
    · exact rfl
    · exact rfl
    · exact rfl
  up := by intro _ _ _ _ _ _ _ e; exact e
theorem t_api_Attr.open_ {I : Gh} {h : Heap} {cs : List Value} {x : api_Attr} (r : t_api_Attr.rep I h cs x) : cs = [.bool x.Protected, .bool x.Numeric, .int .i64 x.Show, .bool x.Modified] := r
structure api_Cell where
  Field : Bool
  Attr : api_Attr
  Char : Int
  deriving DecidableEq, Inhabited
def t_api_Cell : Ty api_Cell where
  size := 6
  rep I h cs x := cs = [.bool x.Field, .bool x.Attr.Protected, .bool x.Attr.Numeric, .int .i64 x.Attr.Show, .bool x.Attr.Modified, .int .u8 x.Char]
  len := by rintro _ _ _ _ rfl; rfl
  one := by
    rintro _ _ _ _ rfl v hv
    simp only [List.mem_cons, List.not_mem_nil, or_false] at hv
    rcases hv with rfl | rfl | rfl | rfl | rfl | rfl
    · exact rfl
    · exact rfl
    · exact rfl
    · exact rfl
    · exact rfl
    · exact rfl
  up := by intro _ _ _ _ _ _ _ e; exact e
theorem t_api_Cell.open_ {I : Gh} {h : Heap} {cs : List Value} {x : api_Cell} (r : t_api_Cell.rep I h cs x) : cs = [.bool x.Field, .bool x.Attr.Protected, .bool x.Attr.Numeric, .int .i64 x.Attr.Show, .bool x.Attr.Modified, .int .u8 x.Char] := r
structure api_Screen where
  Rows : Int
  Cols : Int
  Cells : (List api_Cell)
  Cursor : Int
  Locked : Bool
  Insert : Bool
  deriving DecidableEq, Inhabited
structure api_Key where
  Kind : Int
  Char : Int
  deriving DecidableEq, Inhabited
structure api_Entry where
  Addr : Int
  Text : (List Int)
  deriving DecidableEq, Inhabited
def t_api_Entry : Ty api_Entry where
  size := 2
  rep I h cs x := ∃ a_1, ∃ c_1, ∃ n_1, cs = [.int .i64 x.Addr, .slice a_1 n_1 c_1] ∧ (Rd (tInt .u8) I h a_1 c_1 x.Text ∧ x.Text.length = n_1)
  len := by rintro _ _ _ _ ⟨_, _, _, rfl, _⟩; rfl
  one := by
    rintro _ _ _ _ ⟨e0, e1, e2, rfl, q0⟩ v hv
    simp only [List.mem_cons, List.not_mem_nil, or_false] at hv
    rcases hv with rfl | rfl
    · exact rfl
    · exact rfl
  up := by rintro _ _ _ _ _ _ u ⟨e0, e1, e2, rfl, q0⟩; exact ⟨e0, e1, e2, rfl, ⟨q0.1.up u, q0.2⟩⟩
theorem t_api_Entry.open_ {I : Gh} {h : Heap} {cs : List Value} {x : api_Entry} (r : t_api_Entry.rep I h cs x) : ∃ a_1, ∃ c_1, ∃ n_1, cs = [.int .i64 x.Addr, .slice a_1 n_1 c_1] ∧ (Rd (tInt .u8) I h a_1 c_1 x.Text ∧ x.Text.length = n_1) := r
structure api_In where
  Aid : Int
  Cursor : Int
  Fields : (List api_Entry)
  deriving DecidableEq, Inhabited
def t_api_In : Ty api_In where
  size := 3
  rep I h cs x := ∃ a_2, ∃ c_2, ∃ n_2, cs = [.int .u8 x.Aid, .int .i64 x.Cursor, .slice a_2 n_2 c_2] ∧ (Rd t_api_Entry I h a_2 c_2 x.Fields ∧ x.Fields.length = n_2)
  len := by rintro _ _ _ _ ⟨_, _, _, rfl, _⟩; rfl
  one := by
    rintro _ _ _ _ ⟨e0, e1, e2, rfl, q0⟩ v hv
    simp only [List.mem_cons, List.not_mem_nil, or_false] at hv
    rcases hv with rfl | rfl | rfl
    · exact rfl
    · exact rfl
    · exact rfl
  up := by rintro _ _ _ _ _ _ u ⟨e0, e1, e2, rfl, q0⟩; exact ⟨e0, e1, e2, rfl, ⟨q0.1.up u, q0.2⟩⟩
theorem t_api_In.open_ {I : Gh} {h : Heap} {cs : List Value} {x : api_In} (r : t_api_In.rep I h cs x) : ∃ a_2, ∃ c_2, ∃ n_2, cs = [.int .u8 x.Aid, .int .i64 x.Cursor, .slice a_2 n_2 c_2] ∧ (Rd t_api_Entry I h a_2 c_2 x.Fields ∧ x.Fields.length = n_2) := r
structure api_Order where
  Kind : Int
  Text : (List Int)
  Attr : api_Attr
  Addr : Int
  Char : Int
  deriving DecidableEq, Inhabited
def t_api_Order : Ty api_Order where
  size := 8
  rep I h cs x := ∃ a_1, ∃ c_1, ∃ n_1, cs = [.int .i64 x.Kind, .slice a_1 n_1 c_1, .bool x.Attr.Protected, .bool x.Attr.Numeric, .int .i64 x.Attr.Show, .bool x.Attr.Modified, .int .i64 x.Addr, .int .u8 x.Char] ∧ (Rd (tInt .u8) I h a_1 c_1 x.Text ∧ x.Text.length = n_1)
  len := by rintro _ _ _ _ ⟨_, _, _, rfl, _⟩; rfl
  one := by
    rintro _ _ _ _ ⟨e0, e1, e2, rfl, q0⟩ v hv
    simp only [List.mem_cons, List.not_mem_nil, or_false] at hv
    rcases hv with rfl | rfl | rfl | rfl | rfl | rfl | rfl | rfl
    · exact rfl
    · exact rfl
    · exact rfl
    · exact rfl
    · exact rfl
    · exact rfl
    · exact rfl
    · exact rfl
  up := by rintro _ _ _ _ _ _ u ⟨e0, e1, e2, rfl, q0⟩; exact ⟨e0, e1, e2, rfl, ⟨q0.1.up u, q0.2⟩⟩
theorem t_api_Order.open_ {I : Gh} {h : Heap} {cs : List Value} {x : api_Order} (r : t_api_Order.rep I h cs x) : ∃ a_1, ∃ c_1, ∃ n_1, cs = [.int .i64 x.Kind, .slice a_1 n_1 c_1, .bool x.Attr.Protected, .bool x.Attr.Numeric, .int .i64 x.Attr.Show, .bool x.Attr.Modified, .int .i64 x.Addr, .int .u8 x.Char] ∧ (Rd (tInt .u8) I h a_1 c_1 x.Text ∧ x.Text.length = n_1) := r
structure Anon_is_n where
  is' : Bool
  n' : Int
  deriving DecidableEq, Inhabited
def t_Anon_is_n : Ty Anon_is_n where
  size := 2
  rep I h cs x := cs = [.bool x.is', .int .i64 x.n']
  len := by rintro _ _ _ _ rfl; rfl
  one := by
    rintro _ _ _ _ rfl v hv
    simp only [List.mem_cons, List.not_mem_nil, or_false] at hv
    rcases hv with rfl | rfl
    · exact rfl
    · exact rfl
  up := by intro _ _ _ _ _ _ _ e; exact e
theorem t_Anon_is_n.open_ {I : Gh} {h : Heap} {cs : List Value} {x : Anon_is_n} (r : t_Anon_is_n.rep I h cs x) : cs = [.bool x.is', .int .i64 x.n'] := r
structure api_Wcc where
  Alarm : Bool
  Unlock : Bool
  Reset : Bool
  deriving DecidableEq, Inhabited
def t_api_Wcc : Ty api_Wcc where
  size := 3
  rep I h cs x := cs = [.bool x.Alarm, .bool x.Unlock, .bool x.Reset]
  len := by rintro _ _ _ _ rfl; rfl
  one := by
    rintro _ _ _ _ rfl v hv
    simp only [List.mem_cons, List.not_mem_nil, or_false] at hv
    rcases hv with rfl | rfl | rfl
    · exact rfl
    · exact rfl
    · exact rfl
  up := by intro _ _ _ _ _ _ _ e; exact e
theorem t_api_Wcc.open_ {I : Gh} {h : Heap} {cs : List Value} {x : api_Wcc} (r : t_api_Wcc.rep I h cs x) : cs = [.bool x.Alarm, .bool x.Unlock, .bool x.Reset] := r
structure api_Out where
  Cmd : Int
  Wcc : api_Wcc
  Orders : (List api_Order)
  deriving DecidableEq, Inhabited
def t_api_Out : Ty api_Out where
  size := 5
  rep I h cs x := ∃ a_2, ∃ c_2, ∃ n_2, cs = [.int .i64 x.Cmd, .bool x.Wcc.Alarm, .bool x.Wcc.Unlock, .bool x.Wcc.Reset, .slice a_2 n_2 c_2] ∧ (Rd t_api_Order I h a_2 c_2 x.Orders ∧ x.Orders.length = n_2)
  len := by rintro _ _ _ _ ⟨_, _, _, rfl, _⟩; rfl
  one := by
    rintro _ _ _ _ ⟨e0, e1, e2, rfl, q0⟩ v hv
    simp only [List.mem_cons, List.not_mem_nil, or_false] at hv
    rcases hv with rfl | rfl | rfl | rfl | rfl
    · exact rfl
    · exact rfl
    · exact rfl
    · exact rfl
    · exact rfl
  up := by rintro _ _ _ _ _ _ u ⟨e0, e1, e2, rfl, q0⟩; exact ⟨e0, e1, e2, rfl, ⟨q0.1.up u, q0.2⟩⟩
theorem t_api_Out.open_ {I : Gh} {h : Heap} {cs : List Value} {x : api_Out} (r : t_api_Out.rep I h cs x) : ∃ a_2, ∃ c_2, ∃ n_2, cs = [.int .i64 x.Cmd, .bool x.Wcc.Alarm, .bool x.Wcc.Unlock, .bool x.Wcc.Reset, .slice a_2 n_2 c_2] ∧ (Rd t_api_Order I h a_2 c_2 x.Orders ∧ x.Orders.length = n_2) := r
structure api_Pack where
  Ack : Int
  Num : Int
  Last : Bool
  Data : (List Int)
  deriving DecidableEq, Inhabited
def t_api_Pack : Ty api_Pack where
  size := 4
  rep I h cs x := ∃ a_3, ∃ c_3, ∃ n_3, cs = [.int .i64 x.Ack, .int .i64 x.Num, .bool x.Last, .slice a_3 n_3 c_3] ∧ (Rd (tInt .u8) I h a_3 c_3 x.Data ∧ x.Data.length = n_3)
  len := by rintro _ _ _ _ ⟨_, _, _, rfl, _⟩; rfl
  one := by
    rintro _ _ _ _ ⟨e0, e1, e2, rfl, q0⟩ v hv
    simp only [List.mem_cons, List.not_mem_nil, or_false] at hv
    rcases hv with rfl | rfl | rfl | rfl
    · exact rfl
    · exact rfl
    · exact rfl
    · exact rfl
  up := by rintro _ _ _ _ _ _ u ⟨e0, e1, e2, rfl, q0⟩; exact ⟨e0, e1, e2, rfl, ⟨q0.1.up u, q0.2⟩⟩
theorem t_api_Pack.open_ {I : Gh} {h : Heap} {cs : List Value} {x : api_Pack} (r : t_api_Pack.rep I h cs x) : ∃ a_3, ∃ c_3, ∃ n_3, cs = [.int .i64 x.Ack, .int .i64 x.Num, .bool x.Last, .slice a_3 n_3 c_3] ∧ (Rd (tInt .u8) I h a_3 c_3 x.Data ∧ x.Data.length = n_3) := r
structure line_Line where
  queue' : (List api_Pack)
  given' : Int
  await' : Int
  kept' : (List (Int × api_Pack))
  coming' : (List Int)
  wait' : Int
  left' : Int
  owes' : Bool
  deriving DecidableEq, Inhabited
structure api_Seen where
  Top : Int
  Bits : Int
  deriving DecidableEq, Inhabited
structure api_Peer where
  Addr : ByteArray
  Seq : Int
  deriving DecidableEq, Inhabited
structure roam_Gate where
  Key : (List Int)
  Dir : Int
  Seen : api_Seen
  Peer : api_Peer
  deriving DecidableEq, Inhabited
structure side_side where
  key' : (List Int)
  gate' : roam_Gate
  line' : line_Line
  dir' : Int
  seq' : Int
  deriving DecidableEq, Inhabited
structure api_Event where
  Host : Bool
  Key : api_Key
  Code : Int
  Bytes : (List Int)
  deriving DecidableEq, Inhabited
def t_api_Event : Ty api_Event where
  size := 5
  rep I h cs x := ∃ a_3, ∃ c_3, ∃ n_3, cs = [.bool x.Host, .int .i64 x.Key.Kind, .int .u8 x.Key.Char, .int .i64 x.Code, .slice a_3 n_3 c_3] ∧ (Rd (tInt .u8) I h a_3 c_3 x.Bytes ∧ x.Bytes.length = n_3)
  len := by rintro _ _ _ _ ⟨_, _, _, rfl, _⟩; rfl
  one := by
    rintro _ _ _ _ ⟨e0, e1, e2, rfl, q0⟩ v hv
    simp only [List.mem_cons, List.not_mem_nil, or_false] at hv
    rcases hv with rfl | rfl | rfl | rfl | rfl
    · exact rfl
    · exact rfl
    · exact rfl
    · exact rfl
    · exact rfl
  up := by rintro _ _ _ _ _ _ u ⟨e0, e1, e2, rfl, q0⟩; exact ⟨e0, e1, e2, rfl, ⟨q0.1.up u, q0.2⟩⟩
theorem t_api_Event.open_ {I : Gh} {h : Heap} {cs : List Value} {x : api_Event} (r : t_api_Event.rep I h cs x) : ∃ a_3, ∃ c_3, ∃ n_3, cs = [.bool x.Host, .int .i64 x.Key.Kind, .int .u8 x.Key.Char, .int .i64 x.Code, .slice a_3 n_3 c_3] ∧ (Rd (tInt .u8) I h a_3 c_3 x.Bytes ∧ x.Bytes.length = n_3) := r
structure side_Client where
  side' : side_side
  s' : api_Screen
  todo' : (List (List Int))
  sent' : (List (List Int))
  events' : (List api_Event)
  deriving DecidableEq, Inhabited
structure bytes_Cursor where
  b' : (List Int)
  at' : Int
  err' : GoErr
  deriving DecidableEq, Inhabited
structure hash_Sum where
  h' : (List Int)
  rest' : (List Int)
  n' : Int
  deriving DecidableEq, Inhabited
structure api_Frame where
  Dir : Int
  Seq : Int
  Body : (List Int)
  deriving DecidableEq, Inhabited
structure side_Host where
  side' : side_side
  got' : (List (List Int))
  deriving DecidableEq, Inhabited
structure api_Fate where
  Lost : Bool
  Twice : Bool
  Delay : Int
  deriving DecidableEq, Inhabited
def t_api_Fate : Ty api_Fate where
  size := 3
  rep I h cs x := cs = [.bool x.Lost, .bool x.Twice, .int .i64 x.Delay]
  len := by rintro _ _ _ _ rfl; rfl
  one := by
    rintro _ _ _ _ rfl v hv
    simp only [List.mem_cons, List.not_mem_nil, or_false] at hv
    rcases hv with rfl | rfl | rfl
    · exact rfl
    · exact rfl
    · exact rfl
  up := by intro _ _ _ _ _ _ _ e; exact e
structure api_Act where
  Kind : Int
  Key : api_Key
  Out : api_Out
  From : ByteArray
  To : Int
  Bytes : (List Int)
  deriving DecidableEq, Inhabited
def t_api_Act : Ty api_Act where
  size := 11
  rep I h cs x := ∃ a_2_2, ∃ c_2_2, ∃ n_2_2, ∃ a_5, ∃ c_5, ∃ n_5, cs = [.int .i64 x.Kind, .int .i64 x.Key.Kind, .int .u8 x.Key.Char, .int .i64 x.Out.Cmd, .bool x.Out.Wcc.Alarm, .bool x.Out.Wcc.Unlock, .bool x.Out.Wcc.Reset, .slice a_2_2 n_2_2 c_2_2, .string x.From, .int .i64 x.To, .slice a_5 n_5 c_5] ∧ (Rd t_api_Order I h a_2_2 c_2_2 x.Out.Orders ∧ x.Out.Orders.length = n_2_2) ∧ (Rd (tInt .u8) I h a_5 c_5 x.Bytes ∧ x.Bytes.length = n_5)
  len := by rintro _ _ _ _ ⟨_, _, _, _, _, _, rfl, _, _⟩; rfl
  one := by
    rintro _ _ _ _ ⟨e0, e1, e2, e3, e4, e5, rfl, q0, q1⟩ v hv
    simp only [List.mem_cons, List.not_mem_nil, or_false] at hv
    rcases hv with rfl | rfl | rfl | rfl | rfl | rfl | rfl | rfl | rfl | rfl | rfl
    · exact rfl
    · exact rfl
    · exact rfl
    · exact rfl
    · exact rfl
    · exact rfl
    · exact rfl
    · exact rfl
    · exact rfl
    · exact rfl
    · exact rfl
  up := by rintro _ _ _ _ _ _ u ⟨e0, e1, e2, e3, e4, e5, rfl, q0, q1⟩; exact ⟨e0, e1, e2, e3, e4, e5, rfl, ⟨q0.1.up u, q0.2⟩, ⟨q1.1.up u, q1.2⟩⟩
theorem t_api_Act.open_ {I : Gh} {h : Heap} {cs : List Value} {x : api_Act} (r : t_api_Act.rep I h cs x) : ∃ a_2_2, ∃ c_2_2, ∃ n_2_2, ∃ a_5, ∃ c_5, ∃ n_5, cs = [.int .i64 x.Kind, .int .i64 x.Key.Kind, .int .u8 x.Key.Char, .int .i64 x.Out.Cmd, .bool x.Out.Wcc.Alarm, .bool x.Out.Wcc.Unlock, .bool x.Out.Wcc.Reset, .slice a_2_2 n_2_2 c_2_2, .string x.From, .int .i64 x.To, .slice a_5 n_5 c_5] ∧ (Rd t_api_Order I h a_2_2 c_2_2 x.Out.Orders ∧ x.Out.Orders.length = n_2_2) ∧ (Rd (tInt .u8) I h a_5 c_5 x.Bytes ∧ x.Bytes.length = n_5) := r
structure api_Script where
  Rows : Int
  Cols : Int
  Key : (List Int)
  Acts : (List api_Act)
  Fates : (List api_Fate)
  deriving DecidableEq, Inhabited
structure world_world where
  s' : api_Script
  c' : side_Client
  h' : side_Host
  air' : net_Air
  addr' : ByteArray
  fates' : (List api_Fate)
  asked' : (List (List Int))
  evil' : (List api_Mail)
  deriving DecidableEq, Inhabited
structure api_Tale where
  Asked : (List (List Int))
  Sent : (List (List Int))
  Got : (List (List Int))
  Events : (List api_Event)
  Screen : api_Screen
  Waits : (List Int)
  Peers : (List api_Peer)
  Addr : ByteArray
  deriving DecidableEq, Inhabited
abbrev cl_api_Mail (x : api_Mail) (a3 : Option Addr) (n3 p3 : Nat) : List Value := [.string x.From, .int .i64 x.To, .string x.Goal, .slice a3 n3 p3]
abbrev cl_net_flight (x : net_flight) (a3 : Option Addr) (n3 p3 : Nat) : List Value := [.string x.m'.From, .int .i64 x.m'.To, .string x.m'.Goal, .slice a3 n3 p3, .int .i64 x.to']
abbrev cl_api_Attr (x : api_Attr) : List Value := [.bool x.Protected, .bool x.Numeric, .int .i64 x.Show, .bool x.Modified]
abbrev cl_api_Cell (x : api_Cell) : List Value := [.bool x.Field, .bool x.Attr.Protected, .bool x.Attr.Numeric, .int .i64 x.Attr.Show, .bool x.Attr.Modified, .int .u8 x.Char]
abbrev cl_api_Screen (x : api_Screen) (a2 : Option Addr) (n2 p2 : Nat) : List Value := [.int .i64 x.Rows, .int .i64 x.Cols, .slice a2 n2 p2, .int .i64 x.Cursor, .bool x.Locked, .bool x.Insert]
abbrev cl_api_Order (x : api_Order) (a1 : Option Addr) (n1 p1 : Nat) : List Value := [.int .i64 x.Kind, .slice a1 n1 p1, .bool x.Attr.Protected, .bool x.Attr.Numeric, .int .i64 x.Attr.Show, .bool x.Attr.Modified, .int .i64 x.Addr, .int .u8 x.Char]
abbrev cl_api_Out (x : api_Out) (a4 : Option Addr) (n4 p4 : Nat) : List Value := [.int .i64 x.Cmd, .bool x.Wcc.Alarm, .bool x.Wcc.Unlock, .bool x.Wcc.Reset, .slice a4 n4 p4]
abbrev cl_api_Pack (x : api_Pack) (a3 : Option Addr) (n3 p3 : Nat) : List Value := [.int .i64 x.Ack, .int .i64 x.Num, .bool x.Last, .slice a3 n3 p3]
abbrev cl_roam_Gate (x : roam_Gate) (a0 : Option Addr) (n0 p0 : Nat) : List Value := [.slice a0 n0 p0, .int .i64 x.Dir, .int .i64 x.Seen.Top, .int .u64 x.Seen.Bits, .string x.Peer.Addr, .int .i64 x.Peer.Seq]
abbrev cl_side_side (x : side_side) (a0 : Option Addr) (n0 p0 : Nat) (a1 : Option Addr) (n1 p1 : Nat) (b7 : Nat) : List Value := [.slice a0 n0 p0, .slice a1 n1 p1, .int .i64 x.gate'.Dir, .int .i64 x.gate'.Seen.Top, .int .u64 x.gate'.Seen.Bits, .string x.gate'.Peer.Addr, .int .i64 x.gate'.Peer.Seq, pv b7, .int .i64 x.dir', .int .i64 x.seq']
abbrev cl_side_Client (x : side_Client) (a0 : Option Addr) (n0 p0 : Nat) (a1 : Option Addr) (n1 p1 : Nat) (b7 : Nat) (a12 : Option Addr) (n12 p12 : Nat) (a16 : Option Addr) (n16 p16 : Nat) (a17 : Option Addr) (n17 p17 : Nat) (a18 : Option Addr) (n18 p18 : Nat) : List Value := [.slice a0 n0 p0, .slice a1 n1 p1, .int .i64 x.side'.gate'.Dir, .int .i64 x.side'.gate'.Seen.Top, .int .u64 x.side'.gate'.Seen.Bits, .string x.side'.gate'.Peer.Addr, .int .i64 x.side'.gate'.Peer.Seq, pv b7, .int .i64 x.side'.dir', .int .i64 x.side'.seq', .int .i64 x.s'.Rows, .int .i64 x.s'.Cols, .slice a12 n12 p12, .int .i64 x.s'.Cursor, .bool x.s'.Locked, .bool x.s'.Insert, .slice a16 n16 p16, .slice a17 n17 p17, .slice a18 n18 p18]
abbrev cl_side_Host (x : side_Host) (a0 : Option Addr) (n0 p0 : Nat) (a1 : Option Addr) (n1 p1 : Nat) (b7 : Nat) (a10 : Option Addr) (n10 p10 : Nat) : List Value := [.slice a0 n0 p0, .slice a1 n1 p1, .int .i64 x.side'.gate'.Dir, .int .i64 x.side'.gate'.Seen.Top, .int .u64 x.side'.gate'.Seen.Bits, .string x.side'.gate'.Peer.Addr, .int .i64 x.side'.gate'.Peer.Seq, pv b7, .int .i64 x.side'.dir', .int .i64 x.side'.seq', .slice a10 n10 p10]
abbrev cl_api_Act (x : api_Act) (a7 : Option Addr) (n7 p7 : Nat) (a10 : Option Addr) (n10 p10 : Nat) : List Value := [.int .i64 x.Kind, .int .i64 x.Key.Kind, .int .u8 x.Key.Char, .int .i64 x.Out.Cmd, .bool x.Out.Wcc.Alarm, .bool x.Out.Wcc.Unlock, .bool x.Out.Wcc.Reset, .slice a7 n7 p7, .string x.From, .int .i64 x.To, .slice a10 n10 p10]
abbrev cl_api_Script (x : api_Script) (a2 : Option Addr) (n2 p2 : Nat) (a3 : Option Addr) (n3 p3 : Nat) (a4 : Option Addr) (n4 p4 : Nat) : List Value := [.int .i64 x.Rows, .int .i64 x.Cols, .slice a2 n2 p2, .slice a3 n3 p3, .slice a4 n4 p4]
abbrev cl_world_world (x : world_world) (a2 : Option Addr) (n2 p2 : Nat) (a3 : Option Addr) (n3 p3 : Nat) (a4 : Option Addr) (n4 p4 : Nat) (b5 : Nat) (b6 : Nat) (b7 : Nat) (a9 : Option Addr) (n9 p9 : Nat) (a10 : Option Addr) (n10 p10 : Nat) (a11 : Option Addr) (n11 p11 : Nat) : List Value := [.int .i64 x.s'.Rows, .int .i64 x.s'.Cols, .slice a2 n2 p2, .slice a3 n3 p3, .slice a4 n4 p4, pv b5, pv b6, pv b7, .string x.addr', .slice a9 n9 p9, .slice a10 n10 p10, .slice a11 n11 p11]
def net_New.m  : Option net_Air :=
  (some (⟨[]⟩ : net_Air))
theorem net_New.calls {B I : Gh} {h : Heap}  {r : net_Air} (H : net_New.m  = some r)  :
    Fc Tryz.prog 105 #[] [] B I h (fun v L => ∃ b0 a0 p0 n0, v = pv b0 ∧ L = [rB b0 [.slice a0 n0 p0] 275, rO t_net_flight .i a0 p0 n0 r.l']) := by
 refine fc_of fun E hs => ?_;unfold net_New.m at H;refine fn_of (rs := [.tmp 0]) (N := 3) Tryz.func105 rfl rfl rfl rfl ?_;refine st 7 [] (k_op (nB hs [.slice none 0 0] ?_));intro b1 h hs;obtain rfl := si H;exact st 2 [] (k_retQ ⟨_, by kernel_rfl, I, _, ⟨b1, none, 0, 0, rfl, rfl⟩, hs.pk (.c d0 (.f imON .n))⟩)
def api_Code.m (x0 : GoErr) : Option Int := some (codeOf x0)
theorem api_Code.calls {B I : Gh} {h : Heap} {x0 : GoErr} {v0 : Value} {r : Int} (H : api_Code.m x0 = some r) : Fc Tryz.prog 21 #[v0] [rE .b v0 x0, rG] B I h (fun v L => v = .int .i64 r ∧ L = []) :=
  Code_fc (Option.some.inj H)
def slices_Clone_api_Cell.m (x0 : (List api_Cell)) : Option (List api_Cell) :=
  ((app [] x0).bind fun l0 => (some l0))
theorem slices_Clone_api_Cell.calls {B I : Gh} {h : Heap} {x0 : (List api_Cell)} {a0 : Option Addr} {p0 : Nat} {n0 : Nat} {r : (List api_Cell)} (H : slices_Clone_api_Cell.m x0 = some r)  :
    Fc Tryz.prog 129 #[.slice a0 n0 p0] [rR t_api_Cell .b a0 p0 n0 x0] B I h (fun v L => ∃ a1 p1 n1, v = .slice a1 n1 p1 ∧ L = [rO t_api_Cell .i a1 p1 n1 r]) := by
 refine fc_of fun E hs => ?_;unfold slices_Clone_api_Cell.m at H;cases hs.nR d0;refine fn_of (rs := [.tmp 2]) (N := 8) Tryz.func129 rfl rfl rfl rfl ?_;rcases a0 with _ | ad0
 ·have e0 := ((hs.sR d0).toSl.nil rfl).1;replace H : (some []) = some r := by simpa [app, Lim, e0] using H
  obtain rfl := si H;exact st 15 [true] (k_retQ ⟨_, by kernel_rfl, I, _, ⟨none, 0, 0, rfl, rfl⟩, hs.pk (.f imON .n)⟩)
 refine st 14 [false] (k_op (nS (e := 89) hs .i t_api_Cell ([] : List api_Cell) [] 6 (.agg #[.bool false, .bool false, .bool false, iv 0, .bool false, .int .u8 0]) (.nil : Reps t_api_Cell (Cl.G .i E.B I) h [] []) ?_));intro b0 h hs;obtain ⟨l0, m0, H⟩ := bind_some H;refine st 1 [] (k_op (aO (e := 89) (bytes := 40) hs ((hs.sR d1).flat (fun r => r)) m0 ?_));intro a2 p2 h hs;obtain rfl := si H;exact st 2 [] (k_retQ ⟨_, by kernel_rfl, I, _, ⟨a2, p2, l0.length, rfl, rfl⟩, hs.pk (.c d0 .n)⟩)
def grid_Copy.m (x0 : api_Screen) : Option api_Screen :=
  ((slices_Clone_api_Cell.m x0.Cells).bind fun t0 => (some (⟨x0.Rows, x0.Cols, t0, x0.Cursor, x0.Locked, x0.Insert⟩ : api_Screen)))
theorem grid_Copy.calls {B I : Gh} {h : Heap} {x0 : api_Screen} {a1 : Option Addr} {p1 : Nat} {n0 : Nat} {r : api_Screen} (H : grid_Copy.m x0 = some r)  :
    Fc Tryz.prog 80 #[.agg (cl_api_Screen x0 a1 n0 p1).toArray] [rR t_api_Cell .b a1 p1 n0 x0.Cells] B I h (fun v L => ∃ a2 p2 n1, v = .agg (cl_api_Screen r a2 n1 p2).toArray ∧ L = [rO t_api_Cell .i a2 p2 n1 r.Cells]) := by
 refine fc_of fun E hs => ?_;unfold grid_Copy.m at H;cases hs.nR d0;refine fn_of2 (rs := [.cell 2 56]) (N := 8) Tryz.func80 rfl rfl rfl rfl ?_;refine st 2 [] (k_op (nB hs (cl_api_Screen x0 a1 x0.Cells.length p1) ?_));intro b0 h hs;refine k_op (nA hs [iv 0, iv 0, .slice none 0 0, iv 0, .bool false, .bool false] (.agg #[iv 0, iv 0, .slice none 0 0, iv 0, .bool false, .bool false]) ?_);intro b1 h hs;refine st 4 [] (k_op (lB (hs.bl d1) 2 rfl ?_));obtain ⟨hk, bk⟩ := hs.call tk0 (.c (qB d2) .n);refine k_call H (fun _ m => slices_Clone_api_Cell.calls m hk) ?_;rintro t0 _ h H ⟨I, _, ⟨a0, p0, n2, rfl, rfl⟩, hk⟩;replace hs := bk hk ct1 rfl;cases hs.nO d0;refine st 1 [] (k_op (sB (v := .slice a0 t0.length p0) (hs.f d2) cw2 ?_));intro h hs;refine st 3 [] (k_op (lN (hs.bl d0) 0 6 ?_));refine k_op (sN0 (hs.f d2) (cl_api_Screen x0 a0 t0.length p0) (ones_of rfl) ?_);intro h hs;obtain rfl := si H;exact st 1 [] (k_retQ ⟨[.agg (cl_api_Screen x0 a0 t0.length p0).toArray], (.cons (.agg (by kernel_rfl) (by kernel_rfl) (by kernel_rfl) ((hs.bl d0).seg_ 0 6 (Nat.le_of_ble_eq_true rfl))) .nil), I, _, ⟨a0, p0, t0.length, rfl, rfl⟩, hs.pk (.c d2 .n)⟩)
def attr_Bare.m (x0 : Int) : Option Bool :=
  (if x0 = 108 then (some true) else (if x0 = 110 then (some true) else (if x0 = 107 then (some true) else (if x0 = 109 then (some true) else (some false)))))
theorem attr_Bare.calls {x0 : Int} {h : Heap} {r : Bool} (H : attr_Bare.m x0 = some r)   :
    Ret Tryz.prog 65 #[.int .u8 x0] h (fun v h' => .bool r = v ∧ h' = h) := by
 unfold attr_Bare.m at H;refine fn_of (rs := [.tmp 2]) (N := 10) Tryz.func65 rfl rfl rfl rfl ?_;refine st 18 [] (k_ite H (fun c0 H => ?_) (fun c0 H => ?_))
 ·obtain rfl := si H;exact st 12 [true, true] (k_retQ ⟨_, by kernel_rfl, rfl, rfl⟩)
 refine st 5 [false] (k_ite H (fun c1 H => ?_) (fun c1 H => ?_))
 ·obtain rfl := si H;exact st 12 [true, true] (k_retQ ⟨_, by kernel_rfl, rfl, rfl⟩)
 refine st 4 [false] (k_ite H (fun c2 H => ?_) (fun c2 H => ?_))
 ·obtain rfl := si H;exact st 10 [true] (k_retQ ⟨_, by kernel_rfl, rfl, rfl⟩)
 refine st 6 [false] (k_ite H (fun c3 H => ?_) (fun c3 H => ?_))
 ·obtain rfl := si H;exact st 9 [true] (k_retQ ⟨_, by kernel_rfl, rfl, rfl⟩)
 obtain rfl := si H;exact st 9 [false] (k_retQ ⟨_, by kernel_rfl, rfl, rfl⟩)
def attr_Aid.m (x0 : Int) : Option Bool :=
  ((attr_Bare.m x0).bind fun t0 => bif t0 then (some true) else (if x0 = 125 then (some true) else (if x0 ≥ 241 then (if x0 ≤ 249 then (some true) else (if x0 ≥ 122 then (some (decide (x0 ≤ 124))) else (some false))) else (if x0 ≥ 122 then (some (decide (x0 ≤ 124))) else (some false)))))
theorem attr_Aid.calls {x0 : Int} {h : Heap} {r : Bool} (H : attr_Aid.m x0 = some r)   :
    Ret Tryz.prog 68 #[.int .u8 x0] h (fun v h' => .bool r = v ∧ h' = h) := by
 unfold attr_Aid.m at H;refine fn_of (rs := [.tmp 2]) (N := 25) Tryz.func68 rfl rfl rfl rfl ?_;refine st 7 [] (k_call H (fun _ m => attr_Bare.calls m) ?_);rintro t0 _ _ H ⟨rfl, rfl⟩;cases t0;rotate_left
 ·rw [cond_true] at H;obtain rfl := si H;exact st 22 [] (k_retQ ⟨_, by kernel_rfl, rfl, rfl⟩)
 rw [cond_false] at H;refine st 2 [] (k_ite H (fun c0 H => ?_) (fun c0 H => ?_))
 ·obtain rfl := si H;exact st 19 [] (k_retQ ⟨_, by kernel_rfl, rfl, rfl⟩)
 refine st 3 [] (k_ite H (fun c1 H => ?_) (fun c1 H => ?_));rotate_left
 ·refine st 7 [] (k_ite H (fun c4 H => ?_) (fun c4 H => ?_))
  ·obtain rfl := si H;exact st 7 [] (k_retQ ⟨_, by kernel_rfl, rfl, rfl⟩)
  obtain rfl := si H;exact st 7 [] (k_retQ ⟨_, by kernel_rfl, rfl, rfl⟩)
 refine st 2 [] (k_ite H (fun c2 H => ?_) (fun c2 H => ?_))
 ·obtain rfl := si H;exact st 12 [] (k_retQ ⟨_, by kernel_rfl, rfl, rfl⟩)
 refine st 4 [] (k_ite H (fun c3 H => ?_) (fun c3 H => ?_))
 ·obtain rfl := si H;exact st 7 [] (k_retQ ⟨_, by kernel_rfl, rfl, rfl⟩)
 obtain rfl := si H;exact st 7 [] (k_retQ ⟨_, by kernel_rfl, rfl, rfl⟩)
def keys_asks.m (x0 : api_Screen) (x1 : Int) : Option (api_Screen × Bool × GoErr) :=
  ((attr_Aid.m x1).bind fun t1 => bif t1 then (bif x0.Locked then none else ((grid_Copy.m x0).bind fun t0 => (if x1 = 109 then none else (some ((⟨t0.Rows, t0.Cols, t0.Cells, t0.Cursor, true, false⟩ : api_Screen), true, GoErr.nil))))) else none)
theorem keys_asks.calls {B I : Gh} {h : Heap} {x0 : api_Screen} {x1 : Int} {a1 : Option Addr} {p1 : Nat} {n0 : Nat} {r : (api_Screen × Bool × GoErr)} (H : keys_asks.m x0 x1 = some r)  :
    Fc Tryz.prog 184 #[.agg (cl_api_Screen x0 a1 n0 p1).toArray, .int .u8 x1] [rR t_api_Cell .b a1 p1 n0 x0.Cells] B I h (fun v L => ∃ a2 p2 n1 v0, v = .tuple #[.agg (cl_api_Screen r.1 a2 n1 p2).toArray, .bool r.2.1, v0] ∧ L = [rO t_api_Cell .i a2 p2 n1 r.1.Cells, rE .i v0 r.2.2]) := by
 refine fc_of fun E hs => ?_;unfold keys_asks.m at H;cases hs.nR d0;refine fn_of2 (rs := [.cell 4 56, .tmp 5, .tmp 6]) (N := 28) Tryz.func184 rfl rfl rfl rfl ?_;refine st 2 [] (k_op (nB hs (cl_api_Screen x0 a1 x0.Cells.length p1) ?_));intro b0 h hs;refine k_op (nA hs [iv 0, iv 0, .slice none 0 0, iv 0, .bool false, .bool false] (.agg #[iv 0, iv 0, .slice none 0 0, iv 0, .bool false, .bool false]) ?_);intro b1 h hs;refine st 8 [] (k_call H (fun _ m => attr_Aid.calls m) ?_);rintro t1 _ _ H ⟨rfl, rfl⟩;cases t1
 ·rw [cond_false] at H;cases H
 rw [cond_true] at H;refine st 7 [false] (k_op (lB (hs.bl d1) 4 rfl ?_));refine k_spl H (fun c0 H => ?_) (fun c0 H => ?_)
 ·cases H
 refine st 7 [false] (k_op (lN (hs.bl d1) 0 6 ?_));obtain ⟨hk, bk⟩ := hs.call tk0 (.c (qB d2) .n);refine k_call H (fun _ m => grid_Copy.calls m hk) ?_;rintro t0 _ h H ⟨I, _, ⟨a0, p0, n2, rfl, rfl⟩, hk⟩;replace hs := bk hk ct1 rfl;cases hs.nO d0;refine k_op (sN0 (hs.f d2) (cl_api_Screen t0 a0 t0.Cells.length p0) (ones_of rfl) ?_);intro h hs;refine st 4 [] (k_op (sB (v := .bool true) hs cw4 ?_));intro h hs;refine st 1 [] (k_op (sB (v := .bool false) hs cw5 ?_));intro h hs;refine st 5 [] (k_ite H (fun c1 H => ?_) (fun c1 H => ?_))
 ·cases H
 refine st 5 [false] (k_op (lN (hs.bl d0) 0 6 ?_));refine k_op (sN0 (hs.f d2) [iv t0.Rows, iv t0.Cols, .slice a0 t0.Cells.length p0, iv t0.Cursor, .bool true, .bool false] (ones_of rfl) ?_);intro h hs;obtain rfl := si H;exact st 3 [] (k_retQ ⟨[.agg #[iv t0.Rows, iv t0.Cols, .slice a0 t0.Cells.length p0, iv t0.Cursor, .bool true, .bool false], .bool true, .nilIface], (.cons (.agg (by kernel_rfl) (by kernel_rfl) (by kernel_rfl) ((hs.bl d0).seg_ 0 6 (Nat.le_of_ble_eq_true rfl))) (.cons (.tmp (by kernel_rfl)) (.cons (.tmp (by kernel_rfl)) .nil))), I, _, ⟨a0, p0, t0.Cells.length, (.nilIface), rfl, rfl⟩, hs.pk (.c d2 (.f imEN .n))⟩)
def move_Moves.m (x0 : Int) : Option Bool :=
  (if x0 ≥ 2 then none else (some false))
theorem move_Moves.calls {x0 : Int} {h : Heap} {r : Bool} (H : move_Moves.m x0 = some r)   :
    Ret Tryz.prog 225 #[iv x0] h (fun v h' => .bool r = v ∧ h' = h) := by
 unfold move_Moves.m at H;refine fn_of (rs := [.tmp 2]) (N := 9) Tryz.func225 rfl rfl rfl rfl ?_;refine st 7 [] (k_ite H (fun c0 H => ?_) (fun c0 H => ?_))
 ·cases H
 obtain rfl := si H;exact st 6 [] (k_retQ ⟨_, by kernel_rfl, rfl, rfl⟩)
def grid_On.m (x0 : api_Screen) (x1 : Int) (x2 : Int) : Option Int :=
  (if (x0.Cells.length : Int) ≠ 0 then (some (Int.tmod (w64 ((w64 (x1 + (Int.tmod x2 (x0.Cells.length : Int)))) + (x0.Cells.length : Int))) (x0.Cells.length : Int))) else none)
theorem grid_On.calls {B I : Gh} {h : Heap} {x0 : api_Screen} {x2 : Int} {x1 : Int} {a0 : Option Addr} {p0 : Nat} {n0 : Nat} {r : Int} (H : grid_On.m x0 x2 x1 = some r)  :
    Fc Tryz.prog 272 #[.agg (cl_api_Screen x0 a0 n0 p0).toArray, iv x2, iv x1] [rR t_api_Cell .b a0 p0 n0 x0.Cells] B I h (fun v L => v = iv r ∧ L = []) := by
 refine fc_of fun E hs => ?_;unfold grid_On.m at H;cases hs.nR d0;refine fn_of (rs := [.tmp 6]) (N := 20) Tryz.func272 rfl rfl rfl rfl ?_;refine st 2 [] (k_op (nB hs (cl_api_Screen x0 a0 x0.Cells.length p0) ?_));intro b0 h hs;refine st 5 [] (k_op (lB (hs.bl d0) 2 rfl ?_));obtain ⟨c0, H⟩ := guard_pos H;refine st 8 [] (k_val (iv (Int.tmod x1 (x0.Cells.length : Int))) (pr_rem (k := .i64) (a := x1) (b := (x0.Cells.length : Int)) (by kernel_rfl) (by kernel_rfl) c0) ?_);refine st 4 [] (k_val (iv (Int.tmod (w64 ((w64 (x2 + (Int.tmod x1 (x0.Cells.length : Int)))) + (x0.Cells.length : Int))) (x0.Cells.length : Int))) (pr_rem (k := .i64) (a := (w64 ((w64 (x2 + (Int.tmod x1 (x0.Cells.length : Int)))) + (x0.Cells.length : Int)))) (b := (x0.Cells.length : Int)) (by kernel_rfl) (by kernel_rfl) c0) ?_);obtain rfl := si H;exact st 2 [] (k_retQ ⟨_, by kernel_rfl, I, _, ⟨rfl, rfl⟩, hs.pk .n⟩)
def field_sign.m (x0 : Int) : Option Int :=
  (if x0 < 0 then (some (-1)) else none)
theorem field_sign.calls {x0 : Int} {h : Heap} {r : Int} (H : field_sign.m x0 = some r)   :
    Ret Tryz.prog 307 #[iv x0] h (fun v h' => iv r = v ∧ h' = h) := by
 unfold field_sign.m at H;refine fn_of (rs := [.tmp 2]) (N := 5) Tryz.func307 rfl rfl rfl rfl ?_;refine st 8 [] (k_ite H (fun c0 H => ?_) (fun c0 H => ?_))
 ·obtain rfl := si H;exact st 6 [true] (k_retQ ⟨_, by kernel_rfl, rfl, rfl⟩)
 cases H
def field_round.xs (s : api_Screen) (sg : Int) : Nat → Int → Option (List Int)
  | 0, _ => some []
  | n + 1, x => (grid_On.m s x sg).bind fun y => (field_round.xs s sg n y).bind fun l => some (x :: l)
def field_round.m (x0 : api_Screen) (x1 : Int) (x2 : Int) : Option (List Int) :=
  if (x0.Cells.length : Int) ≤ 1099511627776 then (grid_On.m x0 x1 x2).bind fun x => (field_sign.m x2).bind fun sg => field_round.xs x0 sg x0.Cells.length x else none
theorem field_round.xs_len {s : api_Screen} {sg : Int} : ∀ {n : Nat} {x : Int} {l : List Int}, field_round.xs s sg n x = some l → l.length = n
  | 0, _, l, h => by obtain rfl := Option.some.inj h; rfl
  | n + 1, x, l, h => by
    unfold field_round.xs at h
    obtain ⟨y, _, h⟩ := bind_some h
    obtain ⟨l', h1, h⟩ := bind_some h
    obtain rfl := Option.some.inj h
    rw [List.length_cons, field_round.xs_len h1]
theorem field_round.xs_cons {s : api_Screen} {sg : Int} {n : Nat} {x x' : Int} {l : List Int} (h : field_round.xs s sg (n + 1) x = some (x' :: l)) : x' = x ∧ ∃ y, grid_On.m s x sg = some y ∧ field_round.xs s sg n y = some l := by
  unfold field_round.xs at h
  obtain ⟨y, h1, h⟩ := bind_some h
  obtain ⟨l', h2, h⟩ := bind_some h
  have e := Option.some.inj h
  obtain ⟨rfl, rfl⟩ := List.cons.inj e
  exact ⟨rfl, y, h1, h2⟩
theorem field_round.calls {B I : Gh} {h : Heap} {x0 : api_Screen} {x1 : Int} {x2 : Int} {a21 : Option Addr} {p22 : Nat} {n23 : Nat} {r : List Int} (H : field_round.m x0 x1 x2 = some r) :
    Fc Tryz.prog 293 #[.agg #[.int .i64 x0.Rows, .int .i64 x0.Cols, .slice a21 n23 p22, .int .i64 x0.Cursor, .bool x0.Locked, .bool x0.Insert], .int .i64 x1, .int .i64 x2] [] B I h
      (fun v L => ∃ (b1 b2 b3 : Nat), v = .func (.func 306) #[] #[.pointer (some ⟨b1, 0, none⟩), .pointer (some ⟨b2, 0, none⟩), .pointer (some ⟨b3, 0, none⟩)] ∧
        L = [rB b1 [.int .i64 x0.Rows, .int .i64 x0.Cols, .slice a21 n23 p22, .int .i64 x0.Cursor, .bool x0.Locked, .bool x0.Insert] 56, rB b2 [.int .i64 x1] 3, rB b3 [.int .i64 x2] 3] ∧ field_round.m x0 x1 x2 = some r) := by
 refine fc_of fun E hs => ?_
 refine fn_of (args := [.agg #[.int .i64 x0.Rows, .int .i64 x0.Cols, .slice a21 n23 p22, .int .i64 x0.Cursor, .bool x0.Locked, .bool x0.Insert], .int .i64 x1, .int .i64 x2]) (rs := [.tmp 6]) (N := 8) Tryz.func293 rfl rfl rfl rfl ?_
 refine st 2 [] (k_op (nB hs [.int .i64 x0.Rows, .int .i64 x0.Cols, .slice a21 n23 p22, .int .i64 x0.Cursor, .bool x0.Locked, .bool x0.Insert] ?_))
 intro b1 h hs
 refine k_op (nB hs [.int .i64 x1] ?_)
 intro b2 h hs
 refine k_op (nB hs [.int .i64 x2] ?_)
 intro b3 h hs
 refine st 7 [] ?_
 refine k_retQ ?_
 exact ⟨_, by kernel_rfl, I, _, ⟨b1, b2, b3, rfl, rfl, H⟩, hs.pk (.c d2 (.c d1 (.c d0 .n)))⟩
structure RndH (s : api_Screen) (x1 x2 : Int) (a : Option Addr) (p n b1 b2 b3 : Nat) (h : Heap) : Prop where
  s1 : segAt h (some ⟨b1, 0, none⟩) 0 6 = some [.int .i64 s.Rows, .int .i64 s.Cols, .slice a n p, .int .i64 s.Cursor, .bool s.Locked, .bool s.Insert]
  c1 : cellAt h (some ⟨b1, 0, none⟩) 2 = some (.slice a n p)
  c2 : cellAt h (some ⟨b2, 0, none⟩) 0 = some (.int .i64 x1)
  c3 : cellAt h (some ⟨b3, 0, none⟩) 0 = some (.int .i64 x2)
  rd : ∃ I, Bd I h ∧ Rd t_api_Cell I h a p s.Cells
  len : s.Cells.length = n
theorem grid_On.ret {s : api_Screen} {x y r : Int} {a : Option Addr} {p n : Nat} {h : Heap} (H : grid_On.m s x y = some r) (hr : ∃ I, Bd I h ∧ Rd t_api_Cell I h a p s.Cells) (hl : s.Cells.length = n) :
    Ret Tryz.prog 272 #[.agg #[.int .i64 s.Rows, .int .i64 s.Cols, .slice a n p, .int .i64 s.Cursor, .bool s.Locked, .bool s.Insert], .int .i64 x, .int .i64 y] h (fun v h' => v = .int .i64 r ∧ Grown h h') := by
  obtain ⟨I, hB, rd⟩ := hr
  have pl : St (en [rR t_api_Cell .b a p n s.Cells] No I h) [rR t_api_Cell .b a p n s.Cells] I h :=
    ⟨Pst.refl hB, fun _ x => x.elim, fun _ _ x => x, ⟨⟨⟨rd.mono (fun _ y => .inl y), hl⟩, fun _ x => x.elim, fun _ x => x.elim⟩, trivial⟩, fun _ x => .inl x⟩
  refine (grid_On.calls (B := No) H pl).mono ?_
  rintro v h' ⟨I', L, ⟨rfl, rfl⟩, hs⟩
  exact ⟨rfl, hs.pst.grown fun b x => x.elim id id⟩
theorem field_round.iter {s : api_Screen} {x1 x2 : Int} {a : Option Addr} {p n b1 b2 b3 : Nat} {xs : List Int} (H : field_round.m s x1 x2 = some xs) :
    Iter Tryz.prog 306 #[.pointer (some ⟨b1, 0, none⟩), .pointer (some ⟨b2, 0, none⟩), .pointer (some ⟨b3, 0, none⟩)] (fun x => #[Value.int .i64 x]) xs (RndH s x1 x2 a p n b1 b2 b3) := by
  unfold field_round.m at H
  obtain ⟨hlim, H⟩ := guard_pos H
  intro l J Jx hJH hJG hXG hy h h0
  have H0 := hJH _ _ h0
  refine fn_of (args := [.func (.yield l) #[] #[], .pointer (some ⟨b1, 0, none⟩), .pointer (some ⟨b2, 0, none⟩), .pointer (some ⟨b3, 0, none⟩)]) (rs := []) (N := 25) Tryz.func306 rfl rfl rfl rfl ?_
  refine st 2 [] (k_op (lG (a := some ⟨b1, 0, none⟩) (n := 0) H0.s1 ?_))
  refine k_op (lC (a := some ⟨b2, 0, none⟩) (n := 0) H0.c2 ?_)
  refine k_op (lC (a := some ⟨b3, 0, none⟩) (n := 0) H0.c3 ?_)
  refine k_call H (fun _ m => grid_On.ret m H0.rd H0.len) ?_
  rintro x _ h1 H ⟨rfl, g1⟩
  have h0 := hJG _ _ _ h0 g1
  have H0 := hJH _ _ h0
  obtain ⟨sg, Hs, H⟩ := bind_some H
  have hln := field_round.xs_len H
  have hn := H0.len
  refine st 5 [] (k_op (lC (a := some ⟨b1, 0, none⟩) (n := 2) H0.c1 ?_))
  refine st 4 [] ?_
  refine k_loop 0 (fun k ρ h => ∃ (pre rest : List Int) (x i : Int), xs = pre ++ rest ∧ field_round.xs s sg rest.length x = some rest ∧ k = rest.length ∧ i = (pre.length : Int) ∧
    Fits [(0, .func (.yield l) #[] #[]), (1, .pointer (some ⟨b1, 0, none⟩)), (2, .pointer (some ⟨b2, 0, none⟩)), (3, .pointer (some ⟨b3, 0, none⟩)), (5, .int .i64 x), (12, .int .i64 (n : Int)), (13, .int .i64 i)] ρ ∧ J pre h)
    (fun _ h => J xs h) xs.length ⟨[], xs, x, 0, rfl, by rw [hln]; exact H, rfl, rfl, ⟨by kernel_rfl, by kernel_rfl, by kernel_rfl, by kernel_rfl, by kernel_rfl, by kernel_rfl, by kernel_rfl, trivial⟩, h0⟩ ?_ rfl ?_
  · rintro k ρ h2 ⟨pre, rest, x, i, hx, hr, rfl, hi, hf, hJ⟩
    refine k_fits _ hf ?_ rfl
    have H0 := hJH _ _ hJ
    have hl2 : (pre.length : Int) + (rest.length : Int) = (n : Int) := by rw [← hn, ← hln, hx, List.length_append]; omega
    cases rest with
    | nil =>
      rw [List.append_nil] at hx
      subst hx
      refine st 2 [] (k_val (.bool false) (pr_bool (b := decide (i < (n : Int))) (by kernel_rfl) (decide_eq_false (by rw [hi]; simp at hl2; omega))) ?_)
      refine st 3 [false] ?_
      refine k_out rfl ?_
      exact xE hJ
    | cons x' rest =>
      rw [List.length_cons] at hl2
      obtain ⟨rfl, y, hy1, hy2⟩ := field_round.xs_cons hr
      refine st 2 [] (k_val (.bool true) (pr_bool (b := decide (i < (n : Int))) (by kernel_rfl) (decide_eq_true (by rw [hi]; omega))) ?_)
      refine st 11 [true] (k_op (owp_yield (args := #[.int .i64 x']) (hy pre x' rest h2 hx hJ) ?_))
      rintro b h3 (⟨rfl, hJ3⟩ | ⟨rfl, hX⟩)
      · have H3 := hJH _ _ hJ3
        refine st 4 [false] ?_
        refine k_regP 6 ?_
        refine aG (a := some ⟨b1, 0, none⟩) (n := 0) 0 rfl Keep.refl H3.s1 (fun _ _ x => x) ?_
        refine aRun [1] 4 Keep.refl ?_
        refine aL (a := some ⟨b3, 0, none⟩) (n := 0) 2 rfl Keep.refl H3.c3 (fun _ _ x => x) ?_
        refine aO1 3 rfl (owp_callF (by kernel_rfl) (field_sign.calls Hs) ?_)
        rintro v h' ⟨e1, e2⟩
        rw [← e1, e2]
        refine ⟨Keep.refl, ?_⟩
        refine aO1 4 rfl (owp_callF (by kernel_rfl) (grid_On.ret hy1 H3.rd H3.len) ?_)
        rintro _ h4 ⟨rfl, g4⟩
        have hk : Keep No h3 h4 := fun b hb _ => g4.keep b hb
        refine ⟨hk, ?_⟩
        refine aRun [5] 0 hk ?_
        refine aEnd ?_
        refine st 5 [] ?_
        have e : w64 (i + 1) = ((pre ++ [x']).length : Int) := by
          rw [List.length_append, List.length_singleton, w64_sm (by omega) (by omega)]; omega
        exact k_endL ⟨rest.length, by simp, pre ++ [x'], rest, y, w64 (i + 1), by rw [hx]; simp, hy2, rfl, e, ⟨by kernel_rfl, by kernel_rfl, by kernel_rfl, by kernel_rfl, by kernel_rfl, by kernel_rfl, by kernel_rfl, trivial⟩, hJG _ _ _ hJ3 g4⟩
      · refine st 3 [true] ?_
        refine k_retQ (krL ?_)
        exact ⟨.tuple #[], by kernel_rfl, .inr ⟨_, hX⟩⟩
  · rintro ρ h2 hJ
    refine k_fin ?_
    exact ⟨.tuple #[], by kernel_rfl, .inl hJ⟩
def field_Begin.l1.m (K : Nat) (x0 : api_Screen) : List Int → Option (Unit)
  | [] => some (())
  | x1 :: xs => (if 0 ≤ x1 then (if x1 < (x0.Cells.length : Int) then (bif (at_ x0.Cells x1).Field then none else (field_Begin.l1.m K x0 xs)) else none) else none)
def field_Begin.m (K : Nat) (x0 : api_Screen) (x1 : Int) : Option Int :=
  (if 0 ≤ x1 then (if x1 < (x0.Cells.length : Int) then (bif (at_ x0.Cells x1).Field then none else ((field_round.m x0 x1 (-1)).bind fun t0 => ((field_Begin.l1.m K x0 t0).bind fun _ => (some (-1))))) else none) else none)
theorem field_Begin.calls {B I : Gh} {h : Heap} {K : Nat} {x0 : api_Screen} {x1 : Int} {a21 : Option Addr} {p22 : Nat} {n23 : Nat} {r : Int} (H : field_Begin.m K x0 x1 = some r)  :
    Fc Tryz.prog 288 #[.agg (cl_api_Screen x0 a21 n23 p22).toArray, iv x1] [rR t_api_Cell .b a21 p22 n23 x0.Cells] B I h (fun v L => v = iv r ∧ L = []) := by
 refine fc_of fun E hs => ?_;unfold field_Begin.m at H;cases hs.nR d0;refine fn_rangeW2 (args := [.agg (cl_api_Screen x0 a21 x0.Cells.length p22).toArray, iv x1]) (rs := [.cell 4 3]) (N := 24) [_, _] Tryz.func288 rfl rfl rfl rfl ?_;refine st 1 [] (k_op (nB hs (cl_api_Screen x0 a21 x0.Cells.length p22) ?_));intro b7 h hs;refine k_op (nA hs [iv 0] (iv 0) ?_);intro b0 h hs;refine st 4 [] (k_op (lB (hs.bl d1) 2 rfl ?_));obtain ⟨c0, H⟩ := guard_pos H;obtain ⟨c1, H⟩ := guard_pos H;refine st 1 [] (k_val (elemPtr a21 (x1.toNat * 6)) (pI (e := 89) (ik := .i64) (hs.sR d2) c0 c1) ?_);refine k_val (elemPtr a21 (x1.toNat * 6 + 0)) (pF (off := 0) (hs.sR d2) c0 c1) ?_;obtain ⟨y0, g0, q0⟩ := (hs.sR d2).toSl.seg c0 c1;obtain rfl := t_api_Cell.open_ q0;refine k_op (lC (seg_cell (f := 0) g0 rfl) ?_);refine k_spl H (fun c4 H => ?_) (fun c4 H => ?_)
 ·cases H
 refine st 4 [false] (k_op (lN (hs.bl d1) 0 6 ?_));obtain ⟨hk, bk⟩ := hs.call tk0 .n;refine st 1 [] (k_call H (fun _ m => field_round.calls (a21 := a21) (p22 := p22) (n23 := x0.Cells.length) m hk) ?_);rintro t0 _ h H ⟨I, _, ⟨b4, b5, b6, rfl, rfl, m0⟩, hk⟩;replace hs := bk hk ct3 rfl;refine st 1 [] ?_;obtain ⟨s0, m1, HR0⟩ := bind_some H;clear H;obtain ⟨h1, eh0⟩ : ∃ h', h' = h := ⟨_, rfl⟩;subst eh0;refine k_loopW (range_st (p := 16) (enc := fun (x : Int) => iv x) (hs.pk (.c d5 (.c d4 (.c d3 (.c d0 (.c d0 (.c d0 .n))))))) (fun (pre : List Int) L => ∃ (rest : List Int), t0 = pre ++ rest ∧ (field_Begin.l1.m K x0 rest) = some s0 ∧ L = [rR t_api_Cell .b a21 p22 x0.Cells.length x0.Cells, rB b7 (cl_api_Screen x0 a21 x0.Cells.length p22) 56, rB b0 [iv 0] 3, rB b4 (cl_api_Screen x0 a21 x0.Cells.length p22) 56, rB b5 [iv x1] 3, rB b6 [iv (-1)] 3]) (mkY (fun _ => False) (fun _ _ => False)) ⟨t0, rfl, m1, rfl⟩ (by kernel_rfl) (enters_of Tryz.func306 rfl (by kernel_rfl)) (field_round.iter (a := a21) (p := p22) (n := x0.Cells.length) (b1 := b4) (b2 := b5) (b3 := b6) m0) ?_ (fun x => [(5, iv x), (16, iv x)]) ?_ rfl ?_) ?_ ?_ ?_
 ·rintro o pre L I h' ⟨rest, _, _, rfl⟩ hs;exact ⟨(hs.bl d4).seg_ 0 6 (Nat.le_of_ble_eq_true rfl), (hs.bl d4).cell (off := 2) rfl, (hs.bl d5).cell (off := 0) rfl, (hs.bl d6).cell (off := 0) rfl, ⟨_, hs.bdG (k := .b), hs.rd d1⟩, rfl⟩
 ·intro x Q h' q;exact st 3 [] (k_fin2 q)
 ·rintro o pre x2 rest' L I h hx' ⟨rest, hx, H, rfl⟩ hs;obtain rfl : rest = x2 :: rest' := List.append_cancel_left (hx.symm.trans hx');clear hx';obtain ⟨rest, erest⟩ : ∃ r, r = rest' := ⟨_, rfl⟩;subst erest;rw [field_Begin.l1.m] at H;refine st 4 [] (k_op (lB (hs.bl d2) 2 rfl ?_));obtain ⟨c2, H⟩ := guard_pos H;obtain ⟨c3, H⟩ := guard_pos H;refine st 1 [] (k_val (elemPtr a21 (x2.toNat * 6)) (pI (e := 89) (ik := .i64) (hs.sR d1) c2 c3) ?_);refine k_val (elemPtr a21 (x2.toNat * 6 + 0)) (pF (off := 0) (hs.sR d1) c2 c3) ?_;obtain ⟨y1, g1, q1⟩ := (hs.sR d1).toSl.seg c2 c3;obtain rfl := t_api_Cell.open_ q1;refine k_op (lC (seg_cell (f := 0) g1 rfl) ?_);refine k_spl H (fun c5 H => ?_) (fun c5 H => ?_)
  ·cases H
  refine st 4 [false] (k_fin ?_);exact ⟨_, I, ⟨rest, by simp [hx], H, rfl⟩, hs.pk (.c d0 (.c d0 (.c d0 (.c d0 (.c d0 (.c d0 (.c d0 .n)))))))⟩
 ·intro h0 hk;have key : ∃ (o : Obj), ∃ I, () = s0 ∧ St E (rQ h1.size (h1.size + 1) o :: [rB b0 [iv 0] 3]) I h0 := by
    rcases hk with ⟨o, L, I, ⟨rest, hx, H, rfl⟩, hs⟩ | ⟨o, L, I, hy, hs⟩
    · obtain rfl : rest = [] := List.append_cancel_left (hx.symm.trans (List.append_nil _).symm)
      rw [field_Begin.l1.m] at H;obtain rfl := si H;exact ⟨o, I, rfl, hs.pk (.c d0 (.c d2 .n))⟩
    · exact hy.elim
  obtain ⟨o, I, rfl, hs⟩ := key;have H := HR0;try dsimp only at H
  refine st 2 [] (k_op (sB (v := iv (-1)) (hs.f d1) cw0 ?_));intro h hs;refine st 1 [] (k_retQ (krM ?_));obtain rfl := si H;refine ⟨(hs.rqD d1).1, ?_⟩;replace hs := (hs.f d1).rqe;exact ⟨[iv (-1)], (.cons (.one (by kernel_rfl) (by kernel_rfl) ((hs.bl d0).cell (off := 0) rfl)) .nil), I, _, ⟨rfl, rfl⟩, hs.pk .n⟩
 ·rintro h0 ⟨o, L, I, hy, hs⟩;exact hy.elim
 intro i L hy;exact hy.elim
def field_Of.m (K : Nat) (x0 : api_Screen) (x1 : Int) : Option api_Attr :=
  ((field_Begin.m K x0 x1).bind fun t0 => (if t0 < 0 then (some (⟨false, false, 0, false⟩ : api_Attr)) else none))
theorem field_Of.calls {B I : Gh} {h : Heap} {K : Nat} {x0 : api_Screen} {x1 : Int} {a0 : Option Addr} {p0 : Nat} {n0 : Nat} {r : api_Attr} (H : field_Of.m K x0 x1 = some r)  :
    Fc Tryz.prog 286 #[.agg (cl_api_Screen x0 a0 n0 p0).toArray, iv x1] [rR t_api_Cell .b a0 p0 n0 x0.Cells] B I h (fun v L => v = .agg (cl_api_Attr r).toArray ∧ L = []) := by
 refine fc_of fun E hs => ?_;unfold field_Of.m at H;cases hs.nR d0;refine fn_of2 (rs := [.cell 4 87]) (N := 18) Tryz.func286 rfl rfl rfl rfl ?_;refine st 2 [] (k_op (nB hs (cl_api_Screen x0 a0 x0.Cells.length p0) ?_));intro b0 h hs;refine k_op (nA hs [.bool false, .bool false, iv 0, .bool false] (.agg #[.bool false, .bool false, iv 0, .bool false]) ?_);intro b1 h hs;refine st 3 [] (k_op (lN (hs.bl d1) 0 6 ?_));obtain ⟨hk, bk⟩ := hs.call tk0 (.c (qB d2) .n);refine st 1 [] (k_call H (fun _ m => field_Begin.calls m hk) ?_);rintro t0 _ h H ⟨I, _, ⟨rfl, rfl⟩, hk⟩;replace hs := bk hk ct0 rfl;refine st 6 [] (k_ite H (fun c0 H => ?_) (fun c0 H => ?_));rotate_left
 ·cases H
 refine st 5 [true] (k_op (sN0 hs [.bool false, .bool false, iv 0, .bool false] (ones_of rfl) ?_));intro h hs;obtain rfl := si H;exact st 1 [] (k_retQ ⟨[.agg #[.bool false, .bool false, iv 0, .bool false]], (.cons (.agg (by kernel_rfl) (by kernel_rfl) (by kernel_rfl) ((hs.bl d0).seg_ 0 4 (Nat.le_of_ble_eq_true rfl))) .nil), I, _, ⟨rfl, rfl⟩, hs.pk .n⟩)
def field_Open.m (K : Nat) (x1 : api_Screen) (x0 : Int) : Option Bool :=
  (if 0 ≤ x0 then (if x0 < (x1.Cells.length : Int) then (bif (at_ x1.Cells x0).Field then none else ((field_Of.m K x1 x0).bind fun t0 => (some (!t0.Protected)))) else none) else none)
theorem field_Open.calls {B I : Gh} {h : Heap} {K : Nat} {x0 : api_Screen} {x1 : Int} {a0 : Option Addr} {p0 : Nat} {n0 : Nat} {r : Bool} (H : field_Open.m K x0 x1 = some r)  :
    Fc Tryz.prog 260 #[.agg (cl_api_Screen x0 a0 n0 p0).toArray, iv x1] [rR t_api_Cell .b a0 p0 n0 x0.Cells] B I h (fun v L => v = .bool r ∧ L = []) := by
 refine fc_of fun E hs => ?_;unfold field_Open.m at H;cases hs.nR d0;refine fn_of (rs := [.tmp 4]) (N := 19) Tryz.func260 rfl rfl rfl rfl ?_;refine st 2 [] (k_op (nB hs (cl_api_Screen x0 a0 x0.Cells.length p0) ?_));intro b0 h hs;refine st 5 [] (k_op (lB (hs.bl d0) 2 rfl ?_));obtain ⟨c0, H⟩ := guard_pos H;obtain ⟨c1, H⟩ := guard_pos H;refine st 1 [] (k_val (elemPtr a0 (x1.toNat * 6)) (pI (e := 89) (ik := .i64) (hs.sR d1) c0 c1) ?_);refine k_val (elemPtr a0 (x1.toNat * 6 + 0)) (pF (off := 0) (hs.sR d1) c0 c1) ?_;obtain ⟨y0, g0, q0⟩ := (hs.sR d1).toSl.seg c0 c1;obtain rfl := t_api_Cell.open_ q0;refine k_op (lC (seg_cell (f := 0) g0 rfl) ?_);refine k_spl H (fun c2 H => ?_) (fun c2 H => ?_)
 ·cases H
 refine st 2 [] (k_op (lN (hs.bl d0) 0 6 ?_));obtain ⟨hk, bk⟩ := hs.call tk0 (.c (qB d1) .n);refine st 1 [] (k_call H (fun _ m => field_Of.calls m hk) ?_);rintro t0 _ h H ⟨I, _, ⟨rfl, rfl⟩, hk⟩;replace hs := bk hk ct0 rfl;obtain rfl := si H;exact st 5 [] (k_retQ ⟨_, by kernel_rfl, I, _, ⟨rfl, rfl⟩, hs.pk .n⟩)
def wipe_Wipes.m (x0 : Int) : Option Bool :=
  (if x0 ≥ 12 then none else (some false))
theorem wipe_Wipes.calls {x0 : Int} {h : Heap} {r : Bool} (H : wipe_Wipes.m x0 = some r)   :
    Ret Tryz.prog 227 #[iv x0] h (fun v h' => .bool r = v ∧ h' = h) := by
 unfold wipe_Wipes.m at H;refine fn_of (rs := [.tmp 2]) (N := 9) Tryz.func227 rfl rfl rfl rfl ?_;refine st 7 [] (k_ite H (fun c0 H => ?_) (fun c0 H => ?_))
 ·cases H
 obtain rfl := si H;exact st 6 [] (k_retQ ⟨_, by kernel_rfl, rfl, rfl⟩)
def grid_Size.m (x0 : api_Screen) : Option Int :=
  (some (x0.Cells.length : Int))
theorem grid_Size.calls {B I : Gh} {h : Heap} {x0 : api_Screen} {a0 : Option Addr} {p0 : Nat} {n0 : Nat} {r : Int} (H : grid_Size.m x0 = some r)  :
    Fc Tryz.prog 77 #[.agg (cl_api_Screen x0 a0 n0 p0).toArray] [rR t_api_Cell .b a0 p0 n0 x0.Cells] B I h (fun v L => v = iv r ∧ L = []) := by
 refine fc_of fun E hs => ?_;unfold grid_Size.m at H;cases hs.nR d0;refine fn_of (rs := [.tmp 2]) (N := 6) Tryz.func77 rfl rfl rfl rfl ?_;refine st 2 [] (k_op (nB hs (cl_api_Screen x0 a0 x0.Cells.length p0) ?_));intro b0 h hs;refine st 5 [] (k_op (lB (hs.bl d0) 2 rfl ?_));obtain rfl := si H;exact st 3 [] (k_retQ ⟨_, by kernel_rfl, I, _, ⟨rfl, rfl⟩, hs.pk .n⟩)
def field_Cells.l1.m (K : Nat) (x1 : api_Screen) : Nat → Int → (List Int) → Option ((List Int))
  | 0, _, _ => none
  | k + 1, x0, x2 => (letJ (α := Bool → Option ((List Int))) (fun x3 => (bif x3 then ((app x2 [x0]).bind fun l0 => (field_Cells.l1.m K x1 k (w64 (x0 + 1)) l0)) else (some (x2)))) fun j0 => (if x0 < (x1.Cells.length : Int) then (j0 true) else (j0 false)))
def field_Cells.m (K : Nat) (x0 : api_Screen) (x1 : Int) : Option (List Int) :=
  ((field_Begin.m K x0 x1).bind fun t0 => (if t0 < 0 then ((field_Cells.l1.m K x0 K 0 []).bind fun x2 => (some x2)) else none))
theorem field_Cells.calls {B I : Gh} {h : Heap} {K : Nat} {x0 : api_Screen} {x4 : Int} {a0 : Option Addr} {p0 : Nat} {n2 : Nat} {r : (List Int)} (H : field_Cells.m K x0 x4 = some r)  :
    Fc Tryz.prog 270 #[.agg (cl_api_Screen x0 a0 n2 p0).toArray, iv x4] [rR t_api_Cell .b a0 p0 n2 x0.Cells] B I h (fun v L => ∃ a4 p4 n3, v = .slice a4 n3 p4 ∧ L = [rO (tInt .i64) .i a4 p4 n3 r]) := by
 refine fc_of fun E hs => ?_;unfold field_Cells.m at H;cases hs.nR d0;refine fn_rangeW1 (args := [.agg (cl_api_Screen x0 a0 x0.Cells.length p0).toArray, iv x4]) (rs := [.tmp 4]) (N := 41) [_, _, _, _] Tryz.func270 rfl rfl rfl rfl ?_;refine st 1 [] (k_op (nB hs (cl_api_Screen x0 a0 x0.Cells.length p0) ?_));intro b1 h hs;refine st 3 [] (k_op (nA hs [.slice none 0 0] (.slice none 0 0) ?_));intro b0 h hs;refine st 2 [] (k_op (lN (hs.bl d1) 0 6 ?_));obtain ⟨hk, bk⟩ := hs.call tk0 (.c (qB d2) .n);refine st 1 [] (k_call H (fun _ m => field_Begin.calls m hk) ?_);rintro t0 _ h H ⟨I, _, ⟨rfl, rfl⟩, hk⟩;replace hs := bk hk ct0 rfl;refine st 5 [] (k_ite H (fun c0 H => ?_) (fun c0 H => ?_));rotate_left
 ·cases H
 refine st 6 [true] (k_op (lB (hs.bl d1) 2 rfl ?_));refine st 4 [] ?_;obtain ⟨s0, m0, HR0⟩ := bind_some H;refine k_loopT hs tl1 0 (fun T k' ρ h => ∃ (x1 : Int) (x2 : List Int), ∃ a1 p1 n0 I, field_Cells.l1.m K x0 k' x1 x2 = some s0 ∧ Fits [(5, pv b0), (16, iv (x0.Cells.length : Int)), (17, iv x1)] ρ ∧ St E (rO (tInt .i64) .i a1 p1 n0 x2 :: rB b0 [.slice a1 n0 p1] 265 :: T) I h) (fun T ρ h => ∃ (x3 : List Int), ∃ a2 p2 n1 I, x3 = s0 ∧ Fits [(5, pv b0)] ρ ∧ St E (rO (tInt .i64) .i a2 p2 n1 x3 :: rB b0 [.slice a2 n1 p2] 265 :: T) I h) K ⟨0, [], none, 0, 0, I, m0, ft, hs.pk (.f imON (.c d0 pk0))⟩ ?_ rfl ?_;rotate_left
 ·rintro ρ h ⟨x3, a2, p2, n1, I, rfl, hf, hs⟩;have H := HR0;try dsimp only at H
  refine k_fits _ hf ?_ rfl;cases hs.nO d0;refine st 2 [] (k_op (lB (hs.bl d1) 0 rfl ?_));obtain rfl := si H;exact st 2 [] (k_retQ (krF ⟨_, by kernel_rfl, I, _, ⟨a2, p2, x3.length, rfl, rfl⟩, hs.pk (.c d0 .n)⟩))
 clear HR0 m0 H;rintro k' ρ h ⟨x1, x2, a1, p1, n0, I, H, hf, hs⟩;cases k' with
 | zero => cases H
 | succ k =>
  rw [field_Cells.l1.m] at H;refine k_fits _ hf ?_ rfl;cases hs.nO d0;refine st 1 [] (k_jF H hs (fun x5 => [(5, pv b0), (16, iv (x0.Cells.length : Int)), (17, iv x1), (18, .bool x5)]) ?_ ?_ ?_)
  ·intro j0 H;refine st 1 [] (k_ite H (fun c1 H => ?_) (fun c1 H => ?_))
   ·exact st 1 [] (k_end ⟨true, I, H, ft, hs⟩)
   exact st 1 [] (k_end ⟨false, I, H, ft, hs⟩)
  ·intro ρ h I H hs;refine st 2 [false] (k_out rfl ?_);obtain rfl := si H;exact xE ⟨x2, a1, p1, x2.length, I, rfl, ft, hs.pk (.c d0 (.c d0 pk0))⟩
  intro ρ h I H hs;refine st 11 [true] (k_op (lB (hs.bl d1) 0 rfl ?_));refine st 1 [] (k_op (nS (e := 3) hs .i (tInt .i64) ([x1] : List Int) [iv x1] 1 (iv 0) (Reps.int (I := (Cl.G .i E.B I)) (k := .i64) (l := [x1])) ?_));intro b2 h hs;replace hs := (hs.f d1);obtain ⟨l0, m1, H⟩ := bind_some H;refine k_op (aO (e := 3) (bytes := 8) hs (hs.sO d1) m1 ?_);intro a3 p3 h hs;refine k_op (sB (v := .slice a3 l0.length p3) (hs.f d2) cw0 ?_);intro h hs;exact st 6 [] (k_endL ⟨k, Nat.lt_succ_self _, (w64 (x1 + 1)), l0, a3, p3, l0.length, I, H, ft, hs.pk (.c d1 (.c d0 pk1))⟩)
def edit_Modify.m (K : Nat) (x0 : api_Screen) (x1 : Int) : Option api_Screen :=
  ((grid_Copy.m x0).bind fun t0 => ((field_Begin.m K t0 x1).bind fun t1 => (if t1 ≥ 0 then none else (some t0))))
theorem edit_Modify.calls {B I : Gh} {h : Heap} {K : Nat} {x0 : api_Screen} {x1 : Int} {a1 : Option Addr} {p1 : Nat} {n0 : Nat} {r : api_Screen} (H : edit_Modify.m K x0 x1 = some r)  :
    Fc Tryz.prog 263 #[.agg (cl_api_Screen x0 a1 n0 p1).toArray, iv x1] [rR t_api_Cell .b a1 p1 n0 x0.Cells] B I h (fun v L => ∃ a2 p2 n1, v = .agg (cl_api_Screen r a2 n1 p2).toArray ∧ L = [rO t_api_Cell .i a2 p2 n1 r.Cells]) := by
 refine fc_of fun E hs => ?_;unfold edit_Modify.m at H;cases hs.nR d0;refine fn_of2 (rs := [.cell 4 56]) (N := 20) Tryz.func263 rfl rfl rfl rfl ?_;refine st 2 [] (k_op (nB hs (cl_api_Screen x0 a1 x0.Cells.length p1) ?_));intro b0 h hs;refine k_op (nA hs [iv 0, iv 0, .slice none 0 0, iv 0, .bool false, .bool false] (.agg #[iv 0, iv 0, .slice none 0 0, iv 0, .bool false, .bool false]) ?_);intro b1 h hs;refine st 3 [] (k_op (lN (hs.bl d1) 0 6 ?_));obtain ⟨hk, bk⟩ := hs.call tk0 (.c (qB d2) .n);refine k_call H (fun _ m => grid_Copy.calls m hk) ?_;rintro t0 _ h H ⟨I, _, ⟨a0, p0, n2, rfl, rfl⟩, hk⟩;replace hs := bk hk ct1 rfl;cases hs.nO d0;refine k_op (sN0 (hs.f d2) (cl_api_Screen t0 a0 t0.Cells.length p0) (ones_of rfl) ?_);intro h hs;refine st 4 [] (k_op (lN (hs.bl d0) 0 6 ?_));obtain ⟨hk, bk⟩ := hs.call tk0 (.c (qO d1) .n);refine st 1 [] (k_call H (fun _ m => field_Begin.calls m hk) ?_);rintro t1 _ h H ⟨I, _, ⟨rfl, rfl⟩, hk⟩;replace hs := bk hk ct0 rfl;refine st 5 [] (k_ite H (fun c0 H => ?_) (fun c0 H => ?_))
 ·cases H
 refine st 5 [false] (k_op (lN (hs.bl d0) 0 6 ?_));refine k_op (sN0 (hs.f d2) (cl_api_Screen t0 a0 t0.Cells.length p0) (ones_of rfl) ?_);intro h hs;obtain rfl := si H;exact st 1 [] (k_retQ ⟨[.agg (cl_api_Screen t0 a0 t0.Cells.length p0).toArray], (.cons (.agg (by kernel_rfl) (by kernel_rfl) (by kernel_rfl) ((hs.bl d0).seg_ 0 6 (Nat.le_of_ble_eq_true rfl))) .nil), I, _, ⟨a0, p0, t0.Cells.length, rfl, rfl⟩, hs.pk (.c d2 .n)⟩)
def edit_fits.m (K : Nat) (x0 : api_Screen) (x1 : Int) : Option GoErr :=
  ((field_Open.m K x0 x0.Cursor).bind fun t0 => bif t0 then (if x1 = 28 then none else (if x1 = 30 then none else ((field_Of.m K x0 x0.Cursor).bind fun t1 => (bif t1.Numeric then none else (some GoErr.nil))))) else none)
theorem edit_fits.calls {B I : Gh} {h : Heap} {K : Nat} {x0 : api_Screen} {x1 : Int} {a0 : Option Addr} {p0 : Nat} {n0 : Nat} {r : GoErr} (H : edit_fits.m K x0 x1 = some r)  :
    Fc Tryz.prog 264 #[.agg (cl_api_Screen x0 a0 n0 p0).toArray, .int .u8 x1] [rR t_api_Cell .b a0 p0 n0 x0.Cells] B I h (fun v L => ∃ v0, v = v0 ∧ L = [rE .i v0 r]) := by
 refine fc_of fun E hs => ?_;unfold edit_fits.m at H;cases hs.nR d0;refine fn_of (rs := [.tmp 4]) (N := 31) Tryz.func264 rfl rfl rfl rfl ?_;refine st 2 [] (k_op (nB hs (cl_api_Screen x0 a0 x0.Cells.length p0) ?_));intro b0 h hs;refine st 6 [] (k_op (lN (hs.bl d0) 0 6 ?_));refine st 1 [] (k_op (lB (hs.bl d0) 3 rfl ?_));obtain ⟨hk, bk⟩ := hs.call tk0 (.c (qB d1) .n);refine k_call H (fun _ m => field_Open.calls m hk) ?_;rintro t0 _ h H ⟨I, _, ⟨rfl, rfl⟩, hk⟩;replace hs := bk hk ct0 rfl;cases t0
 ·rw [cond_false] at H;cases H
 rw [cond_true] at H;refine st 7 [false] (k_ite H (fun c0 H => ?_) (fun c0 H => ?_))
 ·cases H
 refine st 2 [] (k_ite H (fun c1 H => ?_) (fun c1 H => ?_))
 ·cases H
 refine st 6 [false] (k_op (lN (hs.bl d0) 0 6 ?_));refine st 1 [] (k_op (lB (hs.bl d0) 3 rfl ?_));obtain ⟨hk, bk⟩ := hs.call tk0 (.c (qB d1) .n);refine k_call H (fun _ m => field_Of.calls m hk) ?_;rintro t1 _ h H ⟨I, _, ⟨rfl, rfl⟩, hk⟩;replace hs := bk hk ct0 rfl;refine st 1 [] (k_if H (fun c2 H => ?_) (fun c2 H => ?_))
 ·cases H
 obtain rfl := si H;exact st 13 [false] (k_retQ ⟨_, by kernel_rfl, I, _, ⟨(.nilIface), rfl, rfl⟩, hs.pk (.f imEN .n)⟩)
def edit_onward.m (K : Nat) (x0 : api_Screen) : Option Int :=
  ((grid_On.m x0 x0.Cursor 1).bind fun t0 => (if 0 ≤ t0 then (if t0 < (x0.Cells.length : Int) then (bif (at_ x0.Cells t0).Field then none else (some t0)) else none) else none))
theorem edit_onward.calls {B I : Gh} {h : Heap} {K : Nat} {x0 : api_Screen} {a0 : Option Addr} {p0 : Nat} {n0 : Nat} {r : Int} (H : edit_onward.m K x0 = some r)  :
    Fc Tryz.prog 266 #[.agg (cl_api_Screen x0 a0 n0 p0).toArray] [rR t_api_Cell .b a0 p0 n0 x0.Cells] B I h (fun v L => v = iv r ∧ L = []) := by
 refine fc_of fun E hs => ?_;unfold edit_onward.m at H;cases hs.nR d0;refine fn_of (rs := [.tmp 2]) (N := 36) Tryz.func266 rfl rfl rfl rfl ?_;refine st 2 [] (k_op (nB hs (cl_api_Screen x0 a0 x0.Cells.length p0) ?_));intro b0 h hs;refine st 4 [] (k_op (lN (hs.bl d0) 0 6 ?_));refine st 1 [] (k_op (lB (hs.bl d0) 3 rfl ?_));obtain ⟨hk, bk⟩ := hs.call tk0 (.c (qB d1) .n);refine k_call H (fun _ m => grid_On.calls m hk) ?_;rintro t0 _ h H ⟨I, _, ⟨rfl, rfl⟩, hk⟩;replace hs := bk hk ct0 rfl;refine st 5 [] (k_op (lB (hs.bl d0) 2 rfl ?_));obtain ⟨c0, H⟩ := guard_pos H;obtain ⟨c1, H⟩ := guard_pos H;refine st 1 [] (k_val (elemPtr a0 (t0.toNat * 6)) (pI (e := 89) (ik := .i64) (hs.sR d1) c0 c1) ?_);obtain ⟨y0, g0, q0⟩ := (hs.sR d1).toSl.seg c0 c1;obtain rfl := t_api_Cell.open_ q0;refine k_op (lG g0 ?_);refine k_op (nA hs [.bool false, .bool false, .bool false, iv 0, .bool false, .int .u8 0] (.agg #[.bool false, .bool false, .bool false, iv 0, .bool false, .int .u8 0]) ?_);intro b1 h hs;refine k_op (sN0 hs [.bool ((at_ x0.Cells t0).Field), .bool (((at_ x0.Cells t0).Attr).Protected), .bool (((at_ x0.Cells t0).Attr).Numeric), iv (((at_ x0.Cells t0).Attr).Show), .bool (((at_ x0.Cells t0).Attr).Modified), .int .u8 ((at_ x0.Cells t0).Char)] (ones_of rfl) ?_);intro h hs;refine st 5 [] (k_op (lB (hs.bl d0) 0 rfl ?_));refine k_spl H (fun c2 H => ?_) (fun c2 H => ?_)
 ·cases H
 obtain rfl := si H;exact st 8 [true] (k_retQ ⟨_, by kernel_rfl, I, _, ⟨rfl, rfl⟩, hs.pk .n⟩)
def attr_Char.m (x0 : Int) : Option Bool :=
  (if x0 = 0 then (some true) else (if x0 = 28 then (some true) else (if x0 = 30 then (some true) else (if x0 ≥ 64 then (some (x0 != 255)) else (some false)))))
theorem attr_Char.calls {x0 : Int} {h : Heap} {r : Bool} (H : attr_Char.m x0 = some r)   :
    Ret Tryz.prog 114 #[.int .u8 x0] h (fun v h' => .bool r = v ∧ h' = h) := by
 unfold attr_Char.m at H;refine fn_of (rs := [.tmp 2]) (N := 15) Tryz.func114 rfl rfl rfl rfl ?_;refine st 17 [] (k_ite H (fun c0 H => ?_) (fun c0 H => ?_))
 ·obtain rfl := si H;exact st 10 [true] (k_retQ ⟨_, by kernel_rfl, rfl, rfl⟩)
 refine st 7 [false] (k_ite H (fun c1 H => ?_) (fun c1 H => ?_))
 ·obtain rfl := si H;exact st 11 [true, true] (k_retQ ⟨_, by kernel_rfl, rfl, rfl⟩)
 refine st 4 [false] (k_ite H (fun c2 H => ?_) (fun c2 H => ?_))
 ·obtain rfl := si H;exact st 9 [true] (k_retQ ⟨_, by kernel_rfl, rfl, rfl⟩)
 refine st 8 [false] (k_ite H (fun c3 H => ?_) (fun c3 H => ?_))
 ·obtain rfl := si H;exact st 6 [] (k_retQ ⟨_, by kernel_rfl, rfl, rfl⟩)
 obtain rfl := si H;exact st 6 [] (k_retQ ⟨_, by kernel_rfl, rfl, rfl⟩)
def edit_Type.m (K : Nat) (x0 : api_Screen) (x1 : Int) : Option (api_Screen × GoErr) :=
  (if x1 = 0 then none else ((attr_Char.m x1).bind fun t1 => bif t1 then (bif x0.Locked then none else ((edit_fits.m K x0 x1).bind fun t2 => (if t2 = GoErr.nil then ((edit_Modify.m K x0 x0.Cursor).bind fun t0 => (bif x0.Insert then none else (if 0 ≤ x0.Cursor then (if x0.Cursor < (t0.Cells.length : Int) then ((edit_onward.m K (⟨t0.Rows, t0.Cols, (t0.Cells.set x0.Cursor.toNat (⟨false, (⟨false, false, 0, false⟩ : api_Attr), x1⟩ : api_Cell)), t0.Cursor, t0.Locked, t0.Insert⟩ : api_Screen)).bind fun t3 => (some ((⟨t0.Rows, t0.Cols, (t0.Cells.set x0.Cursor.toNat (⟨false, (⟨false, false, 0, false⟩ : api_Attr), x1⟩ : api_Cell)), t3, t0.Locked, t0.Insert⟩ : api_Screen), GoErr.nil))) else none) else none))) else none))) else none))
theorem edit_Type.calls {B I : Gh} {h : Heap} {K : Nat} {x0 : api_Screen} {x1 : Int} {a1 : Option Addr} {p1 : Nat} {n0 : Nat} {r : (api_Screen × GoErr)} (H : edit_Type.m K x0 x1 = some r)  :
    Fc Tryz.prog 229 #[.agg (cl_api_Screen x0 a1 n0 p1).toArray, .int .u8 x1] [rR t_api_Cell .b a1 p1 n0 x0.Cells] B I h (fun v L => ∃ a2 p2 n1 v0, v = .tuple #[.agg (cl_api_Screen r.1 a2 n1 p2).toArray, v0] ∧ L = [rO t_api_Cell .i a2 p2 n1 r.1.Cells, rE .i v0 r.2]) := by
 refine fc_of fun E hs => ?_;unfold edit_Type.m at H;cases hs.nR d0;refine fn_of2 (rs := [.cell 4 56, .tmp 5]) (N := 64) Tryz.func229 rfl rfl rfl rfl ?_;refine st 2 [] (k_op (nB hs (cl_api_Screen x0 a1 x0.Cells.length p1) ?_));intro b0 h hs;refine k_op (nA hs [iv 0, iv 0, .slice none 0 0, iv 0, .bool false, .bool false] (.agg #[iv 0, iv 0, .slice none 0 0, iv 0, .bool false, .bool false]) ?_);intro b1 h hs;refine st 7 [] (k_ite H (fun c4 H => ?_) (fun c4 H => ?_))
 ·cases H
 refine st 2 [] (k_call H (fun _ m => attr_Char.calls m) ?_);rintro t2 _ _ H ⟨rfl, rfl⟩;cases t2
 ·rw [cond_false] at H;cases H
 rw [cond_true] at H;refine st 8 [false] (k_op (lB (hs.bl d1) 4 rfl ?_));refine k_spl H (fun c5 H => ?_) (fun c5 H => ?_)
 ·cases H
 refine st 8 [false] (k_op (lN (hs.bl d1) 0 6 ?_));obtain ⟨hk, bk⟩ := hs.call tk0 (.c (qB d2) .n);refine st 1 [] (k_call H (fun _ m => edit_fits.calls m hk) ?_);rintro t3 v1 h H ⟨I, _, ⟨_, rfl, rfl⟩, hk⟩;replace hs := bk hk ct1 rfl;rcases (hs.er d0).cases with ⟨c1, rfl⟩ | ⟨c1, t4, u0, rfl⟩;rotate_left
 ·rw [if_neg c1] at H;cases H
 rw [if_pos c1] at H;refine st 11 [false] (k_op (lN (hs.bl d2) 0 6 ?_));refine st 1 [] (k_op (lB (hs.bl d2) 3 rfl ?_));obtain ⟨hk, bk⟩ := hs.call tk0 (.c (qB d3) .n);refine k_call H (fun _ m => edit_Modify.calls m hk) ?_;rintro t0 _ h H ⟨I, _, ⟨a0, p0, n2, rfl, rfl⟩, hk⟩;replace hs := bk hk ct1 rfl;cases hs.nO d0;refine k_op (nA hs [iv 0, iv 0, .slice none 0 0, iv 0, .bool false, .bool false] (.agg #[iv 0, iv 0, .slice none 0 0, iv 0, .bool false, .bool false]) ?_);intro b2 h hs;refine k_op (sN0 hs (cl_api_Screen t0 a0 t0.Cells.length p0) (ones_of rfl) ?_);intro h hs;refine st 3 [] ?_;obtain ⟨hs0, bk0⟩ := hs.call tk0 (.c (qL d4) .n);have hs := hs0;refine k_regD hs0 11 ?_;refine aRun [0] 10 hs.keep ?_;refine aL 1 rfl hs.keep (ll hs0 d0 (n := 5) rfl) (nmL hs0 d0) ?_;rcases bool_or x0.Insert with c0 | c0;rotate_left
 ·replace H := bif_t c0 H;cases H
 replace H := bif_f c0 H;refine a_known c0 ?_;refine aRun [2, 3, 4, 5, 6, 7, 8, 9, 10] 0 hs.keep ?_;replace hs := hs.pk .n;replace hs := bk0 hs ct0 rfl;refine aEnd ?_;refine st 5 [false] (k_op (lB (hs.bl d0) 2 rfl ?_));refine st 1 [] (k_op (lB (hs.bl d4) 3 rfl ?_));obtain ⟨c2, H⟩ := guard_pos H;obtain ⟨c3, H⟩ := guard_pos H;refine st 2 [] (k_val (elemPtr a0 (x0.Cursor.toNat * 6)) (pI (e := 89) (ik := .i64) (hs.sO d1) c2 c3) ?_);obtain ⟨y0, g0, q0⟩ := (hs.sO d1).toSl.seg c2 c3;obtain rfl := t_api_Cell.open_ q0;replace hs := (hs.f d1);refine k_op (sE hs 0 [.bool false, .bool false, .bool false, iv 0, .bool false, .int .u8 x1] (⟨false, (⟨false, false, 0, false⟩ : api_Attr), x1⟩ : api_Cell) c2 c3 g0 (ones_of rfl) rfl ?_);intro h hs;refine st 3 [] (k_op (lN (hs.bl d1) 0 6 ?_));obtain ⟨hk, bk⟩ := hs.call tk0 (.c (qO d0) .n);refine k_call H (fun _ m => edit_onward.calls m hk) ?_;rintro t1 _ h H ⟨I, _, ⟨rfl, rfl⟩, hk⟩;replace hs := bk hk ct0 rfl;refine st 1 [] (k_op (sB (v := iv t1) (hs.f d1) cw3 ?_));intro h hs;refine st 3 [] (k_op (lN (hs.bl d0) 0 6 ?_));refine k_op (sN0 (hs.f d3) [iv t0.Rows, iv t0.Cols, .slice a0 t0.Cells.length p0, iv t1, .bool t0.Locked, .bool t0.Insert] (ones_of rfl) ?_);intro h hs;obtain rfl := si H;exact st 2 [] (k_retQ ⟨[.agg #[iv t0.Rows, iv t0.Cols, .slice a0 t0.Cells.length p0, iv t1, .bool t0.Locked, .bool t0.Insert], .nilIface], (.cons (.agg (by kernel_rfl) (by kernel_rfl) (by kernel_rfl) ((hs.bl d0).seg_ 0 6 (Nat.le_of_ble_eq_true rfl))) (.cons (.tmp (by kernel_rfl)) .nil)), I, _, ⟨a0, p0, t0.Cells.length, (.nilIface), rfl, rfl⟩, hs.pk (.c d2 (.f imEN .n))⟩)
def keys_plain.m (K : Nat) (x1 : api_Screen) (x0 : api_Key) : Option (api_Screen × GoErr) :=
  ((move_Moves.m x0.Kind).bind fun t1 => bif t1 then none else ((wipe_Wipes.m x0.Kind).bind fun t2 => bif t2 then none else (if x0.Kind = 11 then none else (if x0.Kind = 1 then ((edit_Type.m K x1 x0.Char).bind fun t0 => (some (t0.1, t0.2))) else none))))
theorem keys_plain.calls {B I : Gh} {h : Heap} {K : Nat} {x0 : api_Screen} {x1 : api_Key} {a0 : Option Addr} {p0 : Nat} {n0 : Nat} {r : (api_Screen × GoErr)} (H : keys_plain.m K x0 x1 = some r)  :
    Fc Tryz.prog 185 #[.agg (cl_api_Screen x0 a0 n0 p0).toArray, .agg #[iv x1.Kind, .int .u8 x1.Char]] [rR t_api_Cell .b a0 p0 n0 x0.Cells] B I h (fun v L => ∃ a2 p2 n1 v1, v = .tuple #[.agg (cl_api_Screen r.1 a2 n1 p2).toArray, v1] ∧ L = [rO t_api_Cell .i a2 p2 n1 r.1.Cells, rE .i v1 r.2]) := by
 refine fc_of fun E hs => ?_;unfold keys_plain.m at H;cases hs.nR d0;refine fn_of2 (rs := [.cell 4 56, .tmp 5]) (N := 56) Tryz.func185 rfl rfl rfl rfl ?_;refine st 2 [] (k_op (nB hs (cl_api_Screen x0 a0 x0.Cells.length p0) ?_));intro b0 h hs;refine k_op (nB hs [iv x1.Kind, .int .u8 x1.Char] ?_);intro b1 h hs;refine k_op (nA hs [iv 0, iv 0, .slice none 0 0, iv 0, .bool false, .bool false] (.agg #[iv 0, iv 0, .slice none 0 0, iv 0, .bool false, .bool false]) ?_);intro b2 h hs;refine st 7 [] (k_op (lB (hs.bl d1) 0 rfl ?_));refine k_call H (fun _ m => move_Moves.calls m) ?_;rintro t1 _ _ H ⟨rfl, rfl⟩;cases t1;rotate_left
 ·rw [cond_true] at H;cases H
 rw [cond_false] at H;refine st 6 [false] (k_op (lB (hs.bl d1) 0 rfl ?_));refine k_call H (fun _ m => wipe_Wipes.calls m) ?_;rintro t2 _ _ H ⟨rfl, rfl⟩;cases t2;rotate_left
 ·rw [cond_true] at H;cases H
 rw [cond_false] at H;refine st 9 [false] (k_op (lB (hs.bl d1) 0 rfl ?_));refine st 14 [] (k_ite H (fun c0 H => ?_) (fun c0 H => ?_))
 ·cases H
 refine st 7 [false] (k_ite H (fun c1 H => ?_) (fun c1 H => ?_));rotate_left
 ·cases H
 refine st 7 [true] (k_op (lN (hs.bl d2) 0 6 ?_));refine st 1 [] (k_op (lB (hs.bl d1) 1 rfl ?_));obtain ⟨hk, bk⟩ := hs.call tk0 (.c (qB d3) .n);refine k_call H (fun _ m => edit_Type.calls m hk) ?_;rintro t0 _ h H ⟨I, _, ⟨a1, p1, n2, v0, rfl, rfl⟩, hk⟩;replace hs := bk hk ct2 rfl;cases hs.nO d0;refine st 2 [] (k_op (sN0 (hs.f d2) (cl_api_Screen t0.1 a1 t0.1.Cells.length p1) (ones_of rfl) ?_));intro h hs;obtain rfl := si H;exact st 2 [] (k_retQ ⟨[.agg (cl_api_Screen t0.1 a1 t0.1.Cells.length p1).toArray, v0], (.cons (.agg (by kernel_rfl) (by kernel_rfl) (by kernel_rfl) ((hs.bl d0).seg_ 0 6 (Nat.le_of_ble_eq_true rfl))) (.cons (.tmp (by kernel_rfl)) .nil)), I, _, ⟨a1, p1, t0.1.Cells.length, (v0), rfl, rfl⟩, hs.pk (.c d1 (.c d1 .n))⟩)
def keys_Do.m (K : Nat) (x1 : api_Screen) (x0 : api_Key) : Option (api_Screen × Bool × GoErr) :=
  (letJ (α := Bool → Option (api_Screen × Bool × GoErr)) (fun x2 => (bif x2 then ((keys_asks.m x1 x0.Char).bind fun t0 => (some (t0.1, t0.2.1, t0.2.2))) else ((keys_plain.m K x1 x0).bind fun t1 => (some (t1.1, false, t1.2))))) fun j0 => (if x0.Kind = 17 then (j0 true) else (j0 false)))
theorem keys_Do.calls {B I : Gh} {h : Heap} {K : Nat} {x0 : api_Screen} {x1 : api_Key} {a1 : Option Addr} {p1 : Nat} {n0 : Nat} {r : (api_Screen × Bool × GoErr)} (H : keys_Do.m K x0 x1 = some r)  :
    Fc Tryz.prog 130 #[.agg (cl_api_Screen x0 a1 n0 p1).toArray, .agg #[iv x1.Kind, .int .u8 x1.Char]] [rR t_api_Cell .b a1 p1 n0 x0.Cells] B I h (fun v L => ∃ a3 p3 n1 v2, v = .tuple #[.agg (cl_api_Screen r.1 a3 n1 p3).toArray, .bool r.2.1, v2] ∧ L = [rO t_api_Cell .i a3 p3 n1 r.1.Cells, rE .i v2 r.2.2]) := by
 refine fc_of fun E hs => ?_;unfold keys_Do.m at H;cases hs.nR d0;refine fn_of2 (rs := [.cell 4 56, .tmp 5, .tmp 6]) (N := 27) Tryz.func130 rfl rfl rfl rfl ?_;refine st 2 [] (k_op (nB hs (cl_api_Screen x0 a1 x0.Cells.length p1) ?_));intro b0 h hs;refine k_op (nB hs [iv x1.Kind, .int .u8 x1.Char] ?_);intro b1 h hs;refine k_op (nA hs [iv 0, iv 0, .slice none 0 0, iv 0, .bool false, .bool false] (.agg #[iv 0, iv 0, .slice none 0 0, iv 0, .bool false, .bool false]) ?_);intro b2 h hs;refine st 5 [] (k_jT H hs (fun x2 => [(2, pv b0), (3, pv b1), (4, pv b2), (11, .bool x2)]) ?_ ?_ ?_)
 ·intro j0 H;refine st 2 [] (k_op (lB (hs.bl d1) 0 rfl ?_));refine k_ite H (fun c0 H => ?_) (fun c0 H => ?_)
  ·exact st 1 [] (k_end ⟨true, I, H, ft, hs⟩)
  exact st 1 [] (k_end ⟨false, I, H, ft, hs⟩)
 ·intro ρ h I H hs;refine st 3 [true] (k_op (lN (hs.bl d2) 0 6 ?_));refine st 1 [] (k_op (lB (hs.bl d1) 1 rfl ?_));obtain ⟨hk, bk⟩ := hs.call tk0 (.c (qB d3) .n);refine k_call H (fun _ m => keys_asks.calls m hk) ?_;rintro t1 _ h H ⟨I, _, ⟨a2, p2, n2, v0, rfl, rfl⟩, hk⟩;replace hs := bk hk ct2 rfl;cases hs.nO d0;refine st 3 [] (k_op (sN0 (hs.f d2) (cl_api_Screen t1.1 a2 t1.1.Cells.length p2) (ones_of rfl) ?_));intro h hs;obtain rfl := si H;exact st 3 [] (k_retQ ⟨[.agg (cl_api_Screen t1.1 a2 t1.1.Cells.length p2).toArray, .bool t1.2.1, v0], (.cons (.agg (by kernel_rfl) (by kernel_rfl) (by kernel_rfl) ((hs.bl d0).seg_ 0 6 (Nat.le_of_ble_eq_true rfl))) (.cons (.tmp (by kernel_rfl)) (.cons (.tmp (by kernel_rfl)) .nil))), I, _, ⟨a2, p2, t1.1.Cells.length, (v0), rfl, rfl⟩, hs.pk (.c d1 (.c d1 .n))⟩)
 intro ρ h I H hs;refine st 4 [false] (k_op (lN (hs.bl d2) 0 6 ?_));refine k_op (lN (hs.bl d1) 0 2 ?_);obtain ⟨hk, bk⟩ := hs.call tk0 (.c (qB d3) .n);refine k_call H (fun _ m => keys_plain.calls m hk) ?_;rintro t0 _ h H ⟨I, _, ⟨a0, p0, n3, v1, rfl, rfl⟩, hk⟩;replace hs := bk hk ct2 rfl;cases hs.nO d0;refine st 3 [] (k_op (nA hs [iv 0, iv 0, .slice none 0 0, iv 0, .bool false, .bool false] (.agg #[iv 0, iv 0, .slice none 0 0, iv 0, .bool false, .bool false]) ?_));intro b3 h hs;refine k_op (sN0 hs (cl_api_Screen t0.1 a0 t0.1.Cells.length p0) (ones_of rfl) ?_);intro h hs;refine st 4 [] (k_op (lN (hs.bl d0) 0 6 ?_));refine st 1 [] (k_op (sN0 (hs.f d3) (cl_api_Screen t0.1 a0 t0.1.Cells.length p0) (ones_of rfl) ?_));intro h hs;obtain rfl := si H;exact st 3 [] (k_retQ ⟨[.agg (cl_api_Screen t0.1 a0 t0.1.Cells.length p0).toArray, .bool false, v1], (.cons (.agg (by kernel_rfl) (by kernel_rfl) (by kernel_rfl) ((hs.bl d0).seg_ 0 6 (Nat.le_of_ble_eq_true rfl))) (.cons (.tmp (by kernel_rfl)) (.cons (.tmp (by kernel_rfl)) .nil))), I, _, ⟨a0, p0, t0.1.Cells.length, (v1), rfl, rfl⟩, hs.pk (.c d2 (.c d2 .n))⟩)
def field_Formatted_1.m (x0 : api_Cell) : Option Bool :=
  (some x0.Field)
theorem field_Formatted_1.calls {B I : Gh} {h : Heap} {x0 : api_Cell} {r : Bool} (H : field_Formatted_1.m x0 = some r)  :
    Fc Tryz.prog 295 #[.agg (cl_api_Cell x0).toArray] [] B I h (fun v L => v = .bool r ∧ L = []) := by
 refine fc_of fun E hs => ?_;unfold field_Formatted_1.m at H;refine fn_of (rs := [.tmp 2]) (N := 5) Tryz.func295 rfl rfl rfl rfl ?_;refine st 2 [] (k_op (nB hs (cl_api_Cell x0) ?_));intro b0 h hs;refine st 5 [] (k_op (lB (hs.bl d0) 0 rfl ?_));obtain rfl := si H;exact st 2 [] (k_retQ ⟨_, by kernel_rfl, I, _, ⟨rfl, rfl⟩, hs.pk .n⟩)
def slices_IndexFunc_api_Cell__field_Formatted_1.l1.m (K : Nat) (x1 : (List api_Cell)) : Nat → Int → Option (Unit)
  | 0, _ => none
  | k + 1, x0 => (letJ (α := Bool → Option (Unit)) (fun x2 => (bif x2 then (if 0 ≤ x0 then (if x0 < (x1.length : Int) then ((field_Formatted_1.m (⟨(at_ x1 x0).Field, ((at_ x1 x0).Attr), (at_ x1 x0).Char⟩ : api_Cell)).bind fun t0 => bif t0 then none else (slices_IndexFunc_api_Cell__field_Formatted_1.l1.m K x1 k (w64 (x0 + 1)))) else none) else none) else (some (())))) fun j0 => (if x0 < (x1.length : Int) then (j0 true) else (j0 false)))
def slices_IndexFunc_api_Cell__field_Formatted_1.m (K : Nat) (x0 : (List api_Cell)) : Option Int :=
  ((slices_IndexFunc_api_Cell__field_Formatted_1.l1.m K x0 K 0).bind fun _ => (some (-1)))
theorem slices_IndexFunc_api_Cell__field_Formatted_1.calls {B I : Gh} {h : Heap} {K : Nat} {x0 : (List api_Cell)} {a0 : Option Addr} {p0 : Nat} {n0 : Nat} {r : Int} (H : slices_IndexFunc_api_Cell__field_Formatted_1.m K x0 = some r)  :
    Fc Tryz.prog 308 #[.slice a0 n0 p0, .func (.func 295) #[] #[]] [rR t_api_Cell .b a0 p0 n0 x0] B I h (fun v L => v = iv r ∧ L = []) := by
 refine fc_of fun E hs => ?_;unfold slices_IndexFunc_api_Cell__field_Formatted_1.m at H;cases hs.nR d0;refine fn_of (rs := [.tmp 4]) (N := 19) Tryz.func308 rfl rfl rfl rfl ?_;refine st 12 [] ?_;obtain ⟨s0, m0, HR0⟩ := bind_some H;refine k_loop 0 (fun k' ρ h => ∃ (x1 : Int), ∃ I, slices_IndexFunc_api_Cell__field_Formatted_1.l1.m K x0 k' x1 = some s0 ∧ Fits [(0, .slice a0 x0.length p0), (1, .func (.func 295) #[] #[]), (7, iv (x0.length : Int)), (8, iv x1)] ρ ∧ St E [rR t_api_Cell .b a0 p0 x0.length x0] I h) (fun ρ h => ∃ I, () = s0 ∧ Fits [] ρ ∧ St E [rR t_api_Cell .b a0 p0 x0.length x0] I h) K ⟨0, I, m0, ft, hs.pk (.c d0 .n)⟩ ?_ rfl ?_;rotate_left
 ·rintro ρ h ⟨I, rfl, hf, hs⟩;have H := HR0;try dsimp only at H
  refine k_fits _ hf ?_ rfl;obtain rfl := si H;exact st 4 [] (k_retQ ⟨_, by kernel_rfl, I, _, ⟨rfl, rfl⟩, hs.pk .n⟩)
 clear HR0 m0 H;rintro k' ρ h ⟨x1, I, H, hf, hs⟩;cases k' with
 | zero => cases H
 | succ k =>
  rw [slices_IndexFunc_api_Cell__field_Formatted_1.l1.m] at H;refine k_fits _ hf ?_ rfl;refine st 1 [] ?_;obtain ⟨j0, e0, H⟩ := letJ_some H;refine k_join (fun ρ h => ∃ (x2 : Bool), ∃ I, j0 x2 = some s0 ∧ Fits [(0, .slice a0 x0.length p0), (1, .func (.func 295) #[] #[]), (7, iv (x0.length : Int)), (8, iv x1), (9, .bool x2)] ρ ∧ St E [rR t_api_Cell .b a0 p0 x0.length x0] I h) ?_ ?_
  ·refine st 1 [] (k_ite H (fun c2 H => ?_) (fun c2 H => ?_))
   ·exact st 1 [] (k_end ⟨true, I, H, ft, hs.pk (.c d0 .n)⟩)
   exact st 1 [] (k_end ⟨false, I, H, ft, hs.pk (.c d0 .n)⟩)
  clear H;rintro ρ h ⟨x2, I, H, hf, hs⟩;refine k_fits _ hf ?_ rfl;subst e0;try dsimp only at H
  cases x2
  ·rw [cond_false] at H;refine st 2 [false] (k_out rfl ?_);obtain rfl := si H;exact xE ⟨I, rfl, trivial, hs.pk (.c d0 .n)⟩
  rw [cond_true] at H;obtain ⟨c0, H⟩ := guard_pos H;obtain ⟨c1, H⟩ := guard_pos H;refine st 15 [true] (k_val (elemPtr a0 (x1.toNat * 6)) (pI (e := 89) (ik := .i64) (hs.sR d0) c0 c1) ?_);obtain ⟨y0, g0, q0⟩ := (hs.sR d0).toSl.seg c0 c1;obtain rfl := t_api_Cell.open_ q0;refine k_op (lG g0 ?_);obtain ⟨hk, bk⟩ := hs.call tk0 .n;refine k_call H (fun _ m => field_Formatted_1.calls m hk) ?_;rintro t0 _ h H ⟨I, _, ⟨rfl, rfl⟩, hk⟩;replace hs := bk hk ct0 rfl;cases t0
  ·rw [cond_false] at H;exact st 8 [false] (k_endL ⟨k, Nat.lt_succ_self _, (w64 (x1 + 1)), I, H, ft, hs.pk (.c d0 .n)⟩)
  rw [cond_true] at H;cases H
def slices_ContainsFunc_api_Cell__field_Formatted_1.m (K : Nat) (x0 : (List api_Cell)) : Option Bool :=
  ((slices_IndexFunc_api_Cell__field_Formatted_1.m K x0).bind fun t0 => (some (decide (t0 ≥ 0))))
theorem slices_ContainsFunc_api_Cell__field_Formatted_1.calls {B I : Gh} {h : Heap} {K : Nat} {x0 : (List api_Cell)} {a0 : Option Addr} {p0 : Nat} {n0 : Nat} {r : Bool} (H : slices_ContainsFunc_api_Cell__field_Formatted_1.m K x0 = some r)  :
    Fc Tryz.prog 294 #[.slice a0 n0 p0, .func (.func 295) #[] #[]] [rR t_api_Cell .b a0 p0 n0 x0] B I h (fun v L => v = .bool r ∧ L = []) := by
 refine fc_of fun E hs => ?_;unfold slices_ContainsFunc_api_Cell__field_Formatted_1.m at H;cases hs.nR d0;refine fn_of (rs := [.tmp 4]) (N := 9) Tryz.func294 rfl rfl rfl rfl ?_;obtain ⟨hk, bk⟩ := hs.call tk0 (.c (qB d0) .n);refine st 8 [] (k_call H (fun _ m => slices_IndexFunc_api_Cell__field_Formatted_1.calls m hk) ?_);rintro t0 _ h H ⟨I, _, ⟨rfl, rfl⟩, hk⟩;replace hs := bk hk ct0 rfl;obtain rfl := si H;exact st 3 [] (k_retQ ⟨_, by kernel_rfl, I, _, ⟨rfl, rfl⟩, hs.pk .n⟩)
def field_Formatted.m (K : Nat) (x0 : api_Screen) : Option Bool :=
  ((slices_ContainsFunc_api_Cell__field_Formatted_1.m K x0.Cells).bind fun t0 => (some t0))
theorem field_Formatted.calls {B I : Gh} {h : Heap} {K : Nat} {x0 : api_Screen} {a0 : Option Addr} {p0 : Nat} {n0 : Nat} {r : Bool} (H : field_Formatted.m K x0 = some r)  :
    Fc Tryz.prog 268 #[.agg (cl_api_Screen x0 a0 n0 p0).toArray] [rR t_api_Cell .b a0 p0 n0 x0.Cells] B I h (fun v L => v = .bool r ∧ L = []) := by
 refine fc_of fun E hs => ?_;unfold field_Formatted.m at H;cases hs.nR d0;refine fn_of (rs := [.tmp 2]) (N := 6) Tryz.func268 rfl rfl rfl rfl ?_;refine st 2 [] (k_op (nB hs (cl_api_Screen x0 a0 x0.Cells.length p0) ?_));intro b0 h hs;refine st 5 [] (k_op (lB (hs.bl d0) 2 rfl ?_));obtain ⟨hk, bk⟩ := hs.call tk0 (.c (qB d1) .n);refine k_call H (fun _ m => slices_ContainsFunc_api_Cell__field_Formatted_1.calls m hk) ?_;rintro t0 _ h H ⟨I, _, ⟨rfl, rfl⟩, hk⟩;replace hs := bk hk ct0 rfl;obtain rfl := si H;exact st 2 [] (k_retQ ⟨_, by kernel_rfl, I, _, ⟨rfl, rfl⟩, hs.pk .n⟩)
def read_letters.l1.m (K : Nat) (x2 : api_Screen) (x1 : (List Int)) : Nat → (List Int) → Int → Option ((List Int))
  | 0, _, _ => none
  | k + 1, x3, x0 => (letJ (α := Bool → Option ((List Int))) (fun x4 => (bif x4 then (if 0 ≤ x0 then (if x0 < (x1.length : Int) then (if 0 ≤ (at_ x1 x0) then (if (at_ x1 x0) < (x2.Cells.length : Int) then (bif (at_ x2.Cells (at_ x1 x0)).Field then none else (if (at_ x2.Cells (at_ x1 x0)).Char = 0 then (read_letters.l1.m K x2 x1 k x3 (w64 (x0 + 1))) else ((app x3 [(at_ x2.Cells (at_ x1 x0)).Char]).bind fun l0 => (read_letters.l1.m K x2 x1 k l0 (w64 (x0 + 1)))))) else none) else none) else none) else none) else (some (x3)))) fun j0 => (if x0 < (x1.length : Int) then (j0 true) else (j0 false)))
def read_letters.m (K : Nat) (x0 : api_Screen) (x1 : (List Int)) : Option (List Int) :=
  ((read_letters.l1.m K x0 x1 K [] 0).bind fun x2 => (some x2))
theorem read_letters.calls {B I : Gh} {h : Heap} {K : Nat} {x2 : api_Screen} {x0 : (List Int)} {a2 : Option Addr} {p3 : Nat} {n2 : Nat} {a1 : Option Addr} {p1 : Nat} {n3 : Nat} {r : (List Int)} (H : read_letters.m K x2 x0 = some r)  :
    Fc Tryz.prog 269 #[.agg (cl_api_Screen x2 a2 n2 p3).toArray, .slice a1 n3 p1] [rR t_api_Cell .b a2 p3 n2 x2.Cells, rR (tInt .i64) .b a1 p1 n3 x0] B I h (fun v L => ∃ a4 p4 n4, v = .slice a4 n4 p4 ∧ L = [rO (tInt .u8) .i a4 p4 n4 r]) := by
 refine fc_of fun E hs => ?_;unfold read_letters.m at H;cases hs.nR d0;cases hs.nR d1;refine fn_of (rs := [.tmp 4]) (N := 35) Tryz.func269 rfl rfl rfl rfl ?_;refine st 2 [] (k_op (nB hs (cl_api_Screen x2 a2 x2.Cells.length p3) ?_));intro b0 h hs;refine st 14 [] ?_;obtain ⟨s0, m0, HR0⟩ := bind_some H;refine k_loopT hs tl0 0 (fun T k' ρ h => ∃ (x3 : List Int) (x1 : Int), ∃ a0 p0 n0 I, read_letters.l1.m K x2 x0 k' x3 x1 = some s0 ∧ Fits [(2, pv b0), (5, .slice a0 n0 p0), (9, .slice a1 x0.length p1), (10, iv (x0.length : Int)), (11, iv x1)] ρ ∧ St E (rO (tInt .u8) .i a0 p0 n0 x3 :: T) I h) (fun T ρ h => ∃ (x4 : List Int), ∃ a3 p2 n1 I, x4 = s0 ∧ Fits [(5, .slice a3 n1 p2)] ρ ∧ St E (rO (tInt .u8) .i a3 p2 n1 x4 :: T) I h) K ⟨[], 0, none, 0, 0, I, m0, ft, hs.pk (.f imON pk0)⟩ ?_ rfl ?_;rotate_left
 ·rintro ρ h ⟨x4, a3, p2, n1, I, rfl, hf, hs⟩;have H := HR0;try dsimp only at H
  refine k_fits _ hf ?_ rfl;cases hs.nO d0;obtain rfl := si H;exact st 5 [] (k_retQ ⟨_, by kernel_rfl, I, _, ⟨a3, p2, x4.length, rfl, rfl⟩, hs.pk (.c d0 .n)⟩)
 clear HR0 m0 H;rintro k' ρ h ⟨x3, x1, a0, p0, n0, I, H, hf, hs⟩;cases k' with
 | zero => cases H
 | succ k =>
  rw [read_letters.l1.m] at H;refine k_fits _ hf ?_ rfl;cases hs.nO d0;refine st 1 [] (k_jF H hs (fun x5 => [(2, pv b0), (5, .slice a0 x3.length p0), (9, .slice a1 x0.length p1), (10, iv (x0.length : Int)), (11, iv x1), (12, .bool x5)]) ?_ ?_ ?_)
  ·intro j0 H;refine st 1 [] (k_ite H (fun c4 H => ?_) (fun c4 H => ?_))
   ·exact st 1 [] (k_end ⟨true, I, H, ft, hs⟩)
   exact st 1 [] (k_end ⟨false, I, H, ft, hs⟩)
  ·intro ρ h I H hs;refine st 2 [false] (k_out rfl ?_);obtain rfl := si H;exact xE ⟨x3, a0, p0, x3.length, I, rfl, ft, hs.pk (.c d0 pk0)⟩
  intro ρ h I H hs;obtain ⟨c0, H⟩ := guard_pos H;obtain ⟨c1, H⟩ := guard_pos H;refine st 7 [true] (k_val (elemPtr a1 (x1.toNat * 1)) (pI (e := 3) (ik := .i64) (hs.sR d3) c0 c1) ?_);refine k_op (lC ((hs.sR d3).cell1 c0 c1) ?_);refine st 5 [] (k_op (lB (hs.bl d1) 2 rfl ?_));obtain ⟨c2, H⟩ := guard_pos H;obtain ⟨c3, H⟩ := guard_pos H;refine st 1 [] (k_val (elemPtr a2 ((at_ x0 x1).toNat * 6)) (pI (e := 89) (ik := .i64) (hs.sR d2) c2 c3) ?_);obtain ⟨y0, g0, q0⟩ := (hs.sR d2).toSl.seg c2 c3;obtain rfl := t_api_Cell.open_ q0;refine k_op (lG g0 ?_);refine k_op (nA hs [.bool false, .bool false, .bool false, iv 0, .bool false, .int .u8 0] (.agg #[.bool false, .bool false, .bool false, iv 0, .bool false, .int .u8 0]) ?_);intro b1 h hs;refine k_op (sN0 hs [.bool ((at_ x2.Cells (at_ x0 x1)).Field), .bool (((at_ x2.Cells (at_ x0 x1)).Attr).Protected), .bool (((at_ x2.Cells (at_ x0 x1)).Attr).Numeric), iv (((at_ x2.Cells (at_ x0 x1)).Attr).Show), .bool (((at_ x2.Cells (at_ x0 x1)).Attr).Modified), .int .u8 ((at_ x2.Cells (at_ x0 x1)).Char)] (ones_of rfl) ?_);intro h hs;refine st 4 [] (k_op (lB (hs.bl d0) 0 rfl ?_));refine k_spl H (fun c5 H => ?_) (fun c5 H => ?_)
  ·cases H
  refine st 3 [] (k_op (lB (hs.bl d0) 5 rfl ?_));refine k_iteN H (fun c6 H => ?_) (fun c6 H => ?_)
  ·exact st 9 [false] (k_endL ⟨k, Nat.lt_succ_self _, x3, (w64 (x1 + 1)), a0, p0, x3.length, I, H, ft, hs.pk (.c d1 pk1)⟩)
  refine st 6 [true] (k_op (lB (hs.bl d0) 5 rfl ?_));refine k_op (nS (e := 5) hs .i (tInt .u8) ([(at_ x2.Cells (at_ x0 x1)).Char] : List Int) [.int .u8 ((at_ x2.Cells (at_ x0 x1)).Char)] 1 (.int .u8 0) (Reps.int (I := (Cl.G .i E.B I)) (k := .u8) (l := [(at_ x2.Cells (at_ x0 x1)).Char])) ?_);intro b2 h hs;replace hs := (hs.f d2);obtain ⟨l0, m1, H⟩ := bind_some H;refine k_op (aO (e := 5) (bytes := 1) hs (hs.sO d1) m1 ?_);intro a5 p5 h hs;exact st 7 [] (k_endL ⟨k, Nat.lt_succ_self _, l0, (w64 (x1 + 1)), a5, p5, l0.length, I, H, ft, hs.pk (.c d0 pk2)⟩)
def read_Modified.m (K : Nat) (x0 : api_Screen) (x1 : Int) : Option (api_In × GoErr) :=
  ((attr_Aid.m x1).bind fun t1 => bif t1 then ((attr_Bare.m x1).bind fun t2 => bif t2 then none else ((field_Formatted.m K x0).bind fun t3 => bif t3 then none else ((field_Cells.m K x0 0).bind fun t4 => ((read_letters.m K x0 t4).bind fun t0 => (if (t0.length : Int) > 0 then (some ((⟨x1, x0.Cursor, [(⟨(-1), t0⟩ : api_Entry)]⟩ : api_In), GoErr.nil)) else none))))) else none)
theorem read_Modified.calls {B I : Gh} {h : Heap} {K : Nat} {x0 : api_Screen} {x1 : Int} {a0 : Option Addr} {p0 : Nat} {n0 : Nat} {r : (api_In × GoErr)} (H : read_Modified.m K x0 x1 = some r)  :
    Fc Tryz.prog 232 #[.agg (cl_api_Screen x0 a0 n0 p0).toArray, .int .u8 x1] [rR t_api_Cell .b a0 p0 n0 x0.Cells] B I h (fun v L => ∃ a2 p2 n1 v0, v = .tuple #[.agg #[.int .u8 r.1.Aid, iv r.1.Cursor, .slice a2 n1 p2], v0] ∧ L = [rO t_api_Entry .i a2 p2 n1 r.1.Fields, rE .i v0 r.2]) := by
 refine fc_of fun E hs => ?_;unfold read_Modified.m at H;cases hs.nR d0;refine fn_of2 (rs := [.cell 4 29, .tmp 5]) (N := 70) Tryz.func232 rfl rfl rfl rfl ?_;refine st 2 [] (k_op (nB hs (cl_api_Screen x0 a0 x0.Cells.length p0) ?_));intro b1 h hs;refine k_op (nA hs [.int .u8 0, iv 0, .slice none 0 0] (.agg #[.int .u8 0, iv 0, .slice none 0 0]) ?_);intro b2 h hs;refine st 7 [] (k_call H (fun _ m => attr_Aid.calls m) ?_);rintro t1 _ _ H ⟨rfl, rfl⟩;cases t1
 ·rw [cond_false] at H;cases H
 rw [cond_true] at H;refine st 7 [false] (k_call H (fun _ m => attr_Bare.calls m) ?_);rintro t2 _ _ H ⟨rfl, rfl⟩;cases t2;rotate_left
 ·rw [cond_true] at H;cases H
 rw [cond_false] at H;refine st 9 [false] (k_op (lB (hs.bl d1) 3 rfl ?_));refine st 1 [] (k_op (nA hs [.int .u8 0, iv 0, .slice none 0 0] (.agg #[.int .u8 0, iv 0, .slice none 0 0]) ?_));intro b3 h hs;refine k_op (sN0 hs [.int .u8 x1, iv x0.Cursor, .slice none 0 0] (ones_of rfl) ?_);intro h hs;refine st 4 [] (k_op (lN (hs.bl d2) 0 6 ?_));obtain ⟨hk, bk⟩ := hs.call tk0 (.c (qB d3) .n);refine k_call H (fun _ m => field_Formatted.calls m hk) ?_;rintro t3 _ h H ⟨I, _, ⟨rfl, rfl⟩, hk⟩;replace hs := bk hk ct0 rfl;cases t3;rotate_left
 ·rw [cond_true] at H;cases H
 rw [cond_false] at H;refine st 5 [true] ?_;obtain ⟨hs0, bk0⟩ := hs.call tk0 (.c (qL d2) (.c (qB d3) .n));have hs := hs0;refine k_regD hs0 5 ?_;refine aG 0 rfl hs.keep (lls hs0 d0 0 6 rfl) (nmL hs0 d0) ?_;refine aG 1 rfl hs.keep (lls hs0 d0 0 6 rfl) (nmL hs0 d0) ?_;obtain ⟨hk, bk⟩ := hs.call tk0 (.c (qB d1) .n);refine aO1 2 rfl (o_call H (fun _ m => field_Cells.calls m hk) ?_);rintro t4 _ h H ⟨I, _, ⟨a3, p3, n2, rfl, rfl⟩, hk⟩;replace hs := bk hk ct1 rfl;cases hs.nO d0;refine ⟨hs.keep, ?_⟩;obtain ⟨hk, bk⟩ := hs.call tk0 (.c (qB d2) (.c (qO d0) .n));refine aO1 3 rfl (o_call H (fun _ m => read_letters.calls m hk) ?_);rintro t0 _ h H ⟨I, _, ⟨a1, p1, n3, rfl, rfl⟩, hk⟩;replace hs := bk hk ct1 rfl;cases hs.nO d0;refine ⟨hs.keep, ?_⟩;refine aRun [4] 0 hs.keep ?_;replace hs := hs.pk (.c d0 (.c d0 .n));replace hs := bk0 hs ct2 rfl;refine aEnd ?_;refine st 4 [] (k_ite H (fun c0 H => ?_) (fun c0 H => ?_));rotate_left
 ·cases H
 obtain ⟨I, hs⟩ := hs.fO;refine st 5 [true] (k_op (nS (e := 135) hs .i t_api_Entry ([(⟨(-1), t0⟩ : api_Entry)] : List api_Entry) [iv (-1), .slice a1 t0.length p1] 2 (.agg #[iv 0, .slice none 0 0]) (Reps.cons (T := t_api_Entry) (c := [iv (-1), .slice a1 t0.length p1]) (x := (⟨(-1), t0⟩ : api_Entry)) ⟨_, _, _, rfl, (hs.g d0)⟩ (.nil : Reps t_api_Entry (Cl.G .i E.B I) h [] [])) ?_));intro b0 h hs;refine st 1 [] (k_op (sB (v := .slice (sa b0) 1 1) (hs.f d3) cw2 ?_));intro h hs;refine st 3 [] (k_op (lN (hs.bl d0) 0 3 ?_));refine k_op (sN0 (hs.f d4) [.int .u8 x1, iv x0.Cursor, .slice (sa b0) 1 1] (ones_of rfl) ?_);intro h hs;obtain rfl := si H;exact st 2 [] (k_retQ ⟨[.agg #[.int .u8 x1, iv x0.Cursor, .slice (sa b0) 1 1], .nilIface], (.cons (.agg (by kernel_rfl) (by kernel_rfl) (by kernel_rfl) ((hs.bl d0).seg_ 0 3 (Nat.le_of_ble_eq_true rfl))) (.cons (.tmp (by kernel_rfl)) .nil)), I, _, ⟨(sa b0), 1, 1, (.nilIface), rfl, rfl⟩, hs.pk (.c d2 (.f imEN .n))⟩)
def stream_known.m (x0 : Int) : Option Bool :=
  (if x0 = 241 then (some true) else (if x0 = 245 then (some true) else (if x0 = 111 then (some true) else (if x0 = 242 then (some true) else (if x0 = 246 then (some true) else (some false))))))
theorem stream_known.calls {x0 : Int} {h : Heap} {r : Bool} (H : stream_known.m x0 = some r)   :
    Ret Tryz.prog 50 #[iv x0] h (fun v h' => .bool r = v ∧ h' = h) := by
 unfold stream_known.m at H;refine fn_of (rs := [.tmp 2]) (N := 12) Tryz.func50 rfl rfl rfl rfl ?_;refine st 19 [] (k_ite H (fun c0 H => ?_) (fun c0 H => ?_))
 ·obtain rfl := si H;exact st 13 [true, true] (k_retQ ⟨_, by kernel_rfl, rfl, rfl⟩)
 refine st 4 [false] (k_ite H (fun c1 H => ?_) (fun c1 H => ?_))
 ·obtain rfl := si H;exact st 11 [true] (k_retQ ⟨_, by kernel_rfl, rfl, rfl⟩)
 refine st 7 [false] (k_ite H (fun c2 H => ?_) (fun c2 H => ?_))
 ·obtain rfl := si H;exact st 10 [true] (k_retQ ⟨_, by kernel_rfl, rfl, rfl⟩)
 refine st 7 [false] (k_ite H (fun c3 H => ?_) (fun c3 H => ?_))
 ·obtain rfl := si H;exact st 11 [true, true] (k_retQ ⟨_, by kernel_rfl, rfl, rfl⟩)
 refine st 4 [false] (k_ite H (fun c4 H => ?_) (fun c4 H => ?_))
 ·obtain rfl := si H;exact st 9 [true] (k_retQ ⟨_, by kernel_rfl, rfl, rfl⟩)
 obtain rfl := si H;exact st 9 [false] (k_retQ ⟨_, by kernel_rfl, rfl, rfl⟩)
def stream_Writes.m (x0 : Int) : Option Bool :=
  (if x0 = 241 then (some true) else (some (x0 == 245)))
theorem stream_Writes.calls {x0 : Int} {h : Heap} {r : Bool} (H : stream_Writes.m x0 = some r)   :
    Ret Tryz.prog 51 #[iv x0] h (fun v h' => .bool r = v ∧ h' = h) := by
 unfold stream_Writes.m at H;refine fn_of (rs := [.tmp 2]) (N := 9) Tryz.func51 rfl rfl rfl rfl ?_;refine st 7 [] (k_ite H (fun c0 H => ?_) (fun c0 H => ?_))
 ·obtain rfl := si H;exact st 6 [] (k_retQ ⟨_, by kernel_rfl, rfl, rfl⟩)
 obtain rfl := si H;exact st 6 [] (k_retQ ⟨_, by kernel_rfl, rfl, rfl⟩)
def six_digit.m (x0 : Int) : Option Int :=
  (if x0 ≥ 97 then (some (w64 ((w64 ((w64 (x0)) - 39)) - 48))) else (some (w64 ((w64 (x0)) - 48))))
theorem six_digit.calls {x0 : Int} {h : Heap} {r : Int} (H : six_digit.m x0 = some r)   :
    Ret Tryz.prog 224 #[.int .u8 x0] h (fun v h' => iv r = v ∧ h' = h) := by
 unfold six_digit.m at H;refine fn_of (rs := [.tmp 2]) (N := 14) Tryz.func224 rfl rfl rfl rfl ?_;refine st 20 [] (k_ite H (fun c0 H => ?_) (fun c0 H => ?_))
 ·obtain rfl := si H;exact st 22 [true] (k_retQ ⟨_, by kernel_rfl, rfl, rfl⟩)
 obtain rfl := si H;exact st 17 [false] (k_retQ ⟨_, by kernel_rfl, rfl, rfl⟩)
def six_at.m (x0 : Int) : Option Int :=
  (if 0 ≤ (w64 (2 * x0)) then (if (w64 (2 * x0)) < 128 then (if 0 ≤ (w64 ((w64 (2 * x0)) + 1)) then (if (w64 ((w64 (2 * x0)) + 1)) < 128 then ((six_digit.m (bt (⟨#[52, 48, 99, 49, 99, 50, 99, 51, 99, 52, 99, 53, 99, 54, 99, 55, 99, 56, 99, 57, 52, 97, 52, 98, 52, 99, 52, 100, 52, 101, 52, 102, 53, 48, 100, 49, 100, 50, 100, 51, 100, 52, 100, 53, 100, 54, 100, 55, 100, 56, 100, 57, 53, 97, 53, 98, 53, 99, 53, 100, 53, 101, 53, 102, 54, 48, 54, 49, 101, 50, 101, 51, 101, 52, 101, 53, 101, 54, 101, 55, 101, 56, 101, 57, 54, 97, 54, 98, 54, 99, 54, 100, 54, 101, 54, 102, 102, 48, 102, 49, 102, 50, 102, 51, 102, 52, 102, 53, 102, 54, 102, 55, 102, 56, 102, 57, 55, 97, 55, 98, 55, 99, 55, 100, 55, 101, 55, 102]⟩ : ByteArray) (w64 (2 * x0)))).bind fun t0 => ((six_digit.m (bt (⟨#[52, 48, 99, 49, 99, 50, 99, 51, 99, 52, 99, 53, 99, 54, 99, 55, 99, 56, 99, 57, 52, 97, 52, 98, 52, 99, 52, 100, 52, 101, 52, 102, 53, 48, 100, 49, 100, 50, 100, 51, 100, 52, 100, 53, 100, 54, 100, 55, 100, 56, 100, 57, 53, 97, 53, 98, 53, 99, 53, 100, 53, 101, 53, 102, 54, 48, 54, 49, 101, 50, 101, 51, 101, 52, 101, 53, 101, 54, 101, 55, 101, 56, 101, 57, 54, 97, 54, 98, 54, 99, 54, 100, 54, 101, 54, 102, 102, 48, 102, 49, 102, 50, 102, 51, 102, 52, 102, 53, 102, 54, 102, 55, 102, 56, 102, 57, 55, 97, 55, 98, 55, 99, 55, 100, 55, 101, 55, 102]⟩ : ByteArray) (w64 ((w64 (2 * x0)) + 1)))).bind fun t1 => (some (IntKind.u8.wrap ((bOr .i64 (shl .i64 t0 4) t1)))))) else none) else none) else none) else none)
theorem six_at.calls {x0 : Int} {h : Heap} {r : Int} (H : six_at.m x0 = some r)   :
    Ret Tryz.prog 170 #[iv x0] h (fun v h' => .int .u8 r = v ∧ h' = h) := by
 unfold six_at.m at H;refine fn_of (rs := [.tmp 2]) (N := 15) Tryz.func170 rfl rfl rfl rfl ?_;refine st 5 [] (k_regP 13 ?_);obtain ⟨c0, H⟩ := guard_pos H;obtain ⟨c1, H⟩ := guard_pos H;refine aRun [0, 1] 11 Keep.refl ?_;refine aP 2 (.int .u8 (bt (⟨#[52, 48, 99, 49, 99, 50, 99, 51, 99, 52, 99, 53, 99, 54, 99, 55, 99, 56, 99, 57, 52, 97, 52, 98, 52, 99, 52, 100, 52, 101, 52, 102, 53, 48, 100, 49, 100, 50, 100, 51, 100, 52, 100, 53, 100, 54, 100, 55, 100, 56, 100, 57, 53, 97, 53, 98, 53, 99, 53, 100, 53, 101, 53, 102, 54, 48, 54, 49, 101, 50, 101, 51, 101, 52, 101, 53, 101, 54, 101, 55, 101, 56, 101, 57, 54, 97, 54, 98, 54, 99, 54, 100, 54, 101, 54, 102, 102, 48, 102, 49, 102, 50, 102, 51, 102, 52, 102, 53, 102, 54, 102, 55, 102, 56, 102, 57, 55, 97, 55, 98, 55, 99, 55, 100, 55, 101, 55, 102]⟩ : ByteArray) (w64 (2 * x0)))) rfl (pr_indexStr (s := (⟨#[52, 48, 99, 49, 99, 50, 99, 51, 99, 52, 99, 53, 99, 54, 99, 55, 99, 56, 99, 57, 52, 97, 52, 98, 52, 99, 52, 100, 52, 101, 52, 102, 53, 48, 100, 49, 100, 50, 100, 51, 100, 52, 100, 53, 100, 54, 100, 55, 100, 56, 100, 57, 53, 97, 53, 98, 53, 99, 53, 100, 53, 101, 53, 102, 54, 48, 54, 49, 101, 50, 101, 51, 101, 52, 101, 53, 101, 54, 101, 55, 101, 56, 101, 57, 54, 97, 54, 98, 54, 99, 54, 100, 54, 101, 54, 102, 102, 48, 102, 49, 102, 50, 102, 51, 102, 52, 102, 53, 102, 54, 102, 55, 102, 56, 102, 57, 55, 97, 55, 98, 55, 99, 55, 100, 55, 101, 55, 102]⟩ : ByteArray)) (k := .i64) (i := (w64 (2 * x0))) (by kernel_rfl) (by kernel_rfl) (by kernel_rfl) c0 c1) Keep.refl ?_;obtain ⟨c2, H⟩ := guard_pos H;obtain ⟨c3, H⟩ := guard_pos H;refine aRun [5, 6, 7] 7 Keep.refl ?_;refine aP 8 (.int .u8 (bt (⟨#[52, 48, 99, 49, 99, 50, 99, 51, 99, 52, 99, 53, 99, 54, 99, 55, 99, 56, 99, 57, 52, 97, 52, 98, 52, 99, 52, 100, 52, 101, 52, 102, 53, 48, 100, 49, 100, 50, 100, 51, 100, 52, 100, 53, 100, 54, 100, 55, 100, 56, 100, 57, 53, 97, 53, 98, 53, 99, 53, 100, 53, 101, 53, 102, 54, 48, 54, 49, 101, 50, 101, 51, 101, 52, 101, 53, 101, 54, 101, 55, 101, 56, 101, 57, 54, 97, 54, 98, 54, 99, 54, 100, 54, 101, 54, 102, 102, 48, 102, 49, 102, 50, 102, 51, 102, 52, 102, 53, 102, 54, 102, 55, 102, 56, 102, 57, 55, 97, 55, 98, 55, 99, 55, 100, 55, 101, 55, 102]⟩ : ByteArray) (w64 ((w64 (2 * x0)) + 1)))) rfl (pr_indexStr (s := (⟨#[52, 48, 99, 49, 99, 50, 99, 51, 99, 52, 99, 53, 99, 54, 99, 55, 99, 56, 99, 57, 52, 97, 52, 98, 52, 99, 52, 100, 52, 101, 52, 102, 53, 48, 100, 49, 100, 50, 100, 51, 100, 52, 100, 53, 100, 54, 100, 55, 100, 56, 100, 57, 53, 97, 53, 98, 53, 99, 53, 100, 53, 101, 53, 102, 54, 48, 54, 49, 101, 50, 101, 51, 101, 52, 101, 53, 101, 54, 101, 55, 101, 56, 101, 57, 54, 97, 54, 98, 54, 99, 54, 100, 54, 101, 54, 102, 102, 48, 102, 49, 102, 50, 102, 51, 102, 52, 102, 53, 102, 54, 102, 55, 102, 56, 102, 57, 55, 97, 55, 98, 55, 99, 55, 100, 55, 101, 55, 102]⟩ : ByteArray)) (k := .i64) (i := (w64 ((w64 (2 * x0)) + 1))) (by kernel_rfl) (by kernel_rfl) (by kernel_rfl) c2 c3) Keep.refl ?_;refine aO1 3 rfl (o_call H (fun _ m => six_digit.calls m) ?_);rintro t0 _ _ H ⟨rfl, rfl⟩;refine ⟨Keep.refl, ?_⟩;refine aRun [4] 4 Keep.refl ?_;refine aO1 9 rfl (o_call H (fun _ m => six_digit.calls m) ?_);rintro t1 _ _ H ⟨rfl, rfl⟩;refine ⟨Keep.refl, ?_⟩;refine aRun [10, 11, 12] 0 Keep.refl ?_;refine aEnd ?_;obtain rfl := si H;exact k_retQ ⟨_, by kernel_rfl, rfl, rfl⟩
def six_Put.m (x0 : Int) : Option (Int × GoErr) :=
  (if x0 < 0 then (some (0, (GoErr.no 1))) else (if x0 ≥ 64 then (some (0, (GoErr.no 1))) else ((six_at.m x0).bind fun t0 => (some (t0, GoErr.nil)))))
theorem six_Put.calls {B I : Gh} {h : Heap} {x0 : Int} {r : (Int × GoErr)} (H : six_Put.m x0 = some r)  :
    Fc Tryz.prog 108 #[iv x0] [] B I h (fun v L => ∃ v0, v = .tuple #[.int .u8 r.1, v0] ∧ L = [rE .i v0 r.2]) := by
 refine fc_of fun E hs => ?_;unfold six_Put.m at H;refine fn_of (rs := [.tmp 2, .tmp 3]) (N := 13) Tryz.func108 rfl rfl rfl rfl ?_;refine st 9 [] (k_ite H (fun c0 H => ?_) (fun c0 H => ?_))
 ·obtain rfl := si H;exact st 12 [true] (k_retQ ⟨_, by kernel_rfl, I, _, ⟨(.iface 137 (iv 1)), rfl, rfl⟩, hs.pk (.f imEC .n)⟩)
 refine st 2 [] (k_ite H (fun c1 H => ?_) (fun c1 H => ?_))
 ·obtain rfl := si H;exact st 9 [true] (k_retQ ⟨_, by kernel_rfl, I, _, ⟨(.iface 137 (iv 1)), rfl, rfl⟩, hs.pk (.f imEC .n)⟩)
 refine st 7 [false] (k_call H (fun _ m => six_at.calls m) ?_);rintro t0 _ _ H ⟨rfl, rfl⟩;obtain rfl := si H;exact st 3 [] (k_retQ ⟨_, by kernel_rfl, I, _, ⟨(.nilIface), rfl, rfl⟩, hs.pk (.f imEN .n)⟩)
def attr_sum.l1.m (K : Nat) (x1 : (List Anon_is_n)) : Nat → Int → Int → Option (Int)
  | 0, _, _ => none
  | k + 1, x2, x0 => (letJ (α := Bool → Option (Int)) (fun x3 => (bif x3 then (if 0 ≤ x0 then (if x0 < (x1.length : Int) then (bif (at_ x1 x0).is' then (attr_sum.l1.m K x1 k (w64 (x2 + ((at_ x1 x0).n'))) (w64 (x0 + 1))) else (attr_sum.l1.m K x1 k x2 (w64 (x0 + 1)))) else none) else none) else (some (x2)))) fun j0 => (if x0 < (x1.length : Int) then (j0 true) else (j0 false)))
def attr_sum.m (K : Nat) (x0 : (List Anon_is_n)) : Option Int :=
  ((attr_sum.l1.m K x0 K 0 0).bind fun x1 => (some x1))
theorem attr_sum.calls {B I : Gh} {h : Heap} {K : Nat} {x0 : (List Anon_is_n)} {a0 : Option Addr} {p0 : Nat} {n0 : Nat} {r : Int} (H : attr_sum.m K x0 = some r)  :
    Fc Tryz.prog 109 #[.slice a0 n0 p0] [rR t_Anon_is_n .b a0 p0 n0 x0] B I h (fun v L => v = iv r ∧ L = []) := by
 refine fc_of fun E hs => ?_;unfold attr_sum.m at H;cases hs.nR d0;refine fn_of (rs := [.tmp 2]) (N := 20) Tryz.func109 rfl rfl rfl rfl ?_;refine st 16 [] ?_;obtain ⟨s0, m0, HR0⟩ := bind_some H;refine k_loop 0 (fun k' ρ h => ∃ (x2 : Int) (x1 : Int), ∃ I, attr_sum.l1.m K x0 k' x2 x1 = some s0 ∧ Fits [(3, iv x2), (6, .slice a0 x0.length p0), (7, iv (x0.length : Int)), (8, iv x1)] ρ ∧ St E [rR t_Anon_is_n .b a0 p0 x0.length x0] I h) (fun ρ h => ∃ (x4 : Int), ∃ I, x4 = s0 ∧ Fits [(3, iv x4)] ρ ∧ St E [rR t_Anon_is_n .b a0 p0 x0.length x0] I h) K ⟨0, 0, I, m0, ft, hs.pk (.c d0 .n)⟩ ?_ rfl ?_;rotate_left
 ·rintro ρ h ⟨x4, I, rfl, hf, hs⟩;have H := HR0;try dsimp only at H
  refine k_fits _ hf ?_ rfl;obtain rfl := si H;exact st 5 [] (k_retQ ⟨_, by kernel_rfl, I, _, ⟨rfl, rfl⟩, hs.pk .n⟩)
 clear HR0 m0 H;rintro k' ρ h ⟨x2, x1, I, H, hf, hs⟩;cases k' with
 | zero => cases H
 | succ k =>
  rw [attr_sum.l1.m] at H;refine k_fits _ hf ?_ rfl;refine st 1 [] ?_;obtain ⟨j0, e0, H⟩ := letJ_some H;refine k_join (fun ρ h => ∃ (x3 : Bool), ∃ I, j0 x3 = some s0 ∧ Fits [(3, iv x2), (6, .slice a0 x0.length p0), (7, iv (x0.length : Int)), (8, iv x1), (9, .bool x3)] ρ ∧ St E [rR t_Anon_is_n .b a0 p0 x0.length x0] I h) ?_ ?_
  ·refine st 1 [] (k_ite H (fun c2 H => ?_) (fun c2 H => ?_))
   ·exact st 1 [] (k_end ⟨true, I, H, ft, hs.pk (.c d0 .n)⟩)
   exact st 1 [] (k_end ⟨false, I, H, ft, hs.pk (.c d0 .n)⟩)
  clear H;rintro ρ h ⟨x3, I, H, hf, hs⟩;refine k_fits _ hf ?_ rfl;subst e0;try dsimp only at H
  cases x3
  ·rw [cond_false] at H;refine st 2 [false] (k_out rfl ?_);obtain rfl := si H;exact xE ⟨x2, I, rfl, ft, hs.pk (.c d0 .n)⟩
  rw [cond_true] at H;obtain ⟨c0, H⟩ := guard_pos H;obtain ⟨c1, H⟩ := guard_pos H;refine st 7 [true] (k_val (elemPtr a0 (x1.toNat * 2)) (pI (e := 200) (ik := .i64) (hs.sR d0) c0 c1) ?_);obtain ⟨y0, g0, q0⟩ := (hs.sR d0).toSl.seg c0 c1;obtain rfl := t_Anon_is_n.open_ q0;refine k_op (lG g0 ?_);refine k_op (nA hs [.bool false, iv 0] (.agg #[.bool false, iv 0]) ?_);intro b0 h hs;refine k_op (sN0 hs [.bool ((at_ x0 x1).is'), iv ((at_ x0 x1).n')] (ones_of rfl) ?_);intro h hs;refine st 4 [] (k_op (lB (hs.bl d0) 0 rfl ?_));refine k_spl H (fun c3 H => ?_) (fun c3 H => ?_)
  ·refine st 5 [true] (k_op (lB (hs.bl d0) 1 rfl ?_));exact st 8 [] (k_endL ⟨k, Nat.lt_succ_self _, (w64 (x2 + ((at_ x0 x1).n'))), (w64 (x1 + 1)), I, H, ft, hs.pk (.c d1 .n)⟩)
  exact st 8 [false] (k_endL ⟨k, Nat.lt_succ_self _, x2, (w64 (x1 + 1)), I, H, ft, hs.pk (.c d1 .n)⟩)
def attr_bit.m (x0 : Bool) (x1 : Int) : Option Anon_is_n :=
  (some (⟨x0, x1⟩ : Anon_is_n))
theorem attr_bit.calls {B I : Gh} {h : Heap} {x0 : Bool} {x1 : Int} {r : Anon_is_n} (H : attr_bit.m x0 x1 = some r)  :
    Fc Tryz.prog 110 #[.bool x0, iv x1] [] B I h (fun v L => v = .agg #[.bool r.is', iv r.n'] ∧ L = []) := by
 refine fc_of fun E hs => ?_;unfold attr_bit.m at H;refine fn_of2 (rs := [.cell 4 200]) (N := 8) Tryz.func110 rfl rfl rfl rfl ?_;refine st 2 [] (k_op (nA hs [.bool false, iv 0] (.agg #[.bool false, iv 0]) ?_));intro b0 h hs;refine st 6 [] (k_op (sN0 hs [.bool x0, iv x1] (ones_of rfl) ?_));intro h hs;obtain rfl := si H;exact st 1 [] (k_retQ ⟨[.agg #[.bool x0, iv x1]], (.cons (.agg (by kernel_rfl) (by kernel_rfl) (by kernel_rfl) ((hs.bl d0).seg_ 0 2 (Nat.le_of_ble_eq_true rfl))) .nil), I, _, ⟨rfl, rfl⟩, hs.pk .n⟩)
def attr_Put.m (K : Nat) (x0 : api_Attr) : Option (Int × GoErr) :=
  (if x0.Show < 0 then (some (0, (GoErr.no 1))) else (if x0.Show > 3 then (some (0, (GoErr.no 1))) else ((attr_bit.m x0.Protected 32).bind fun t1 => ((attr_bit.m x0.Numeric 16).bind fun t2 => ((attr_bit.m x0.Modified 1).bind fun t3 => ((attr_sum.m K [t1, t2, t3]).bind fun t4 => ((six_Put.m (w64 (t4 + (w64 (4 * x0.Show))))).bind fun t0 => (some (t0.1, t0.2)))))))))
theorem attr_Put.calls {B I : Gh} {h : Heap} {K : Nat} {x0 : api_Attr} {r : (Int × GoErr)} (H : attr_Put.m K x0 = some r)  :
    Fc Tryz.prog 169 #[.agg (cl_api_Attr x0).toArray] [] B I h (fun v L => ∃ v0, v = .tuple #[.int .u8 r.1, v0] ∧ L = [rE .i v0 r.2]) := by
 refine fc_of fun E hs => ?_;unfold attr_Put.m at H;refine fn_of (rs := [.tmp 2, .tmp 3]) (N := 31) Tryz.func169 rfl rfl rfl rfl ?_;refine st 2 [] (k_op (nB hs (cl_api_Attr x0) ?_));intro b0 h hs;refine st 7 [] (k_op (lB (hs.bl d0) 2 rfl ?_));refine k_ite H (fun c0 H => ?_) (fun c0 H => ?_)
 ·obtain rfl := si H;exact st 13 [true] (k_retQ ⟨_, by kernel_rfl, I, _, ⟨(.iface 137 (iv 1)), rfl, rfl⟩, hs.pk (.f imEC .n)⟩)
 refine st 2 [] (k_op (lB (hs.bl d0) 2 rfl ?_));refine k_ite H (fun c1 H => ?_) (fun c1 H => ?_)
 ·obtain rfl := si H;exact st 9 [true] (k_retQ ⟨_, by kernel_rfl, I, _, ⟨(.iface 137 (iv 1)), rfl, rfl⟩, hs.pk (.f imEC .n)⟩)
 refine st 5 [false] ?_;obtain ⟨hs0, bk0⟩ := hs.call tk0 (.c (qL d0) .n);have hs := hs0;refine k_regD hs0 20 ?_;refine aRun [0] 19 hs.keep ?_;refine aL 1 rfl hs.keep (ll hs0 d0 (n := 0) rfl) (nmL hs0 d0) ?_;refine aRun [3] 17 hs.keep ?_;refine aL 4 rfl hs.keep (ll hs0 d0 (n := 1) rfl) (nmL hs0 d0) ?_;refine aRun [6] 15 hs.keep ?_;refine aL 7 rfl hs.keep (ll hs0 d0 (n := 3) rfl) (nmL hs0 d0) ?_;refine aRun [11] 13 hs.keep ?_;refine aL 12 rfl hs.keep (ll hs0 d0 (n := 2) rfl) (nmL hs0 d0) ?_;refine aRun [13] 11 hs.keep ?_;obtain ⟨hk, bk⟩ := hs.call tk0 .n;refine aO1 2 rfl (o_call H (fun _ m => attr_bit.calls m hk) ?_);rintro t0 _ h H ⟨I, _, ⟨rfl, rfl⟩, hk⟩;replace hs := bk hk ct0 rfl;refine ⟨hs.keep, ?_⟩;obtain ⟨hk, bk⟩ := hs.call tk0 .n;refine aO1 5 rfl (o_call H (fun _ m => attr_bit.calls m hk) ?_);rintro t1 _ h H ⟨I, _, ⟨rfl, rfl⟩, hk⟩;replace hs := bk hk ct0 rfl;refine ⟨hs.keep, ?_⟩;obtain ⟨hk, bk⟩ := hs.call tk0 .n;refine aO1 8 rfl (o_call H (fun _ m => attr_bit.calls m hk) ?_);rintro t2 _ h H ⟨I, _, ⟨rfl, rfl⟩, hk⟩;replace hs := bk hk ct0 rfl;refine ⟨hs.keep, ?_⟩;refine aO1 9 rfl (nS (e := 200) hs .i t_Anon_is_n ([t0, t1, t2] : List Anon_is_n) [.bool t0.is', iv t0.n', .bool t1.is', iv t1.n', .bool t2.is', iv t2.n'] 2 (.agg #[.bool false, iv 0]) (Reps.cons (T := t_Anon_is_n) (c := [.bool t0.is', iv t0.n']) (x := t0) rfl (Reps.cons (T := t_Anon_is_n) (c := [.bool t1.is', iv t1.n']) (x := t1) rfl (Reps.cons (T := t_Anon_is_n) (c := [.bool t2.is', iv t2.n']) (x := t2) rfl (.nil : Reps t_Anon_is_n (Cl.G .i E.B I) h [] [])))) ?_);intro b1 h hs;refine ⟨hs.keep, ?_⟩;obtain ⟨hk, bk⟩ := hs.call tk0 (.c (qO d0) .n);refine aO1 10 rfl (o_call H (fun _ m => attr_sum.calls m hk) ?_);rintro t3 _ h H ⟨I, _, ⟨rfl, rfl⟩, hk⟩;replace hs := bk hk ct0 rfl;refine ⟨hs.keep, ?_⟩;refine aRun [14] 5 hs.keep ?_;obtain ⟨hk, bk⟩ := hs.call tk0 .n;refine aO1 15 rfl (o_call H (fun _ m => six_Put.calls m hk) ?_);rintro t4 _ h H ⟨I, _, ⟨v1, rfl, rfl⟩, hk⟩;replace hs := bk hk ct1 rfl;refine ⟨hs.keep, ?_⟩;refine aRun [16, 17, 18, 19] 0 hs.keep ?_;replace hs := hs.pk (.c d0 (.c d0 .n));replace hs := bk0 hs ct2 rfl;refine aEnd ?_;obtain rfl := si H;exact k_retQ ⟨_, by kernel_rfl, I, _, ⟨(v1), rfl, rfl⟩, hs.pk (.c d0 .n)⟩
def order_has.m (x0 : Int) : Option (Bool × Bool × Bool × Bool) :=
  (if x0 = 1 then (some (true, false, false, false)) else (if x0 = 2 then (some (false, true, false, false)) else (if x0 = 6 then (some (false, false, true, true)) else (if x0 = 3 then (some (false, false, true, false)) else (if x0 = 7 then (some (false, false, true, false)) else (some (false, false, false, false)))))))
theorem order_has.calls {x0 : Int} {h : Heap} {r : (Bool × Bool × Bool × Bool)} (H : order_has.m x0 = some r)   :
    Ret Tryz.prog 222 #[iv x0] h (fun v h' => .tuple #[.bool r.1, .bool r.2.1, .bool r.2.2.1, .bool r.2.2.2] = v ∧ h' = h) := by
 unfold order_has.m at H;refine fn_of (rs := [.tmp 2, .tmp 3, .tmp 4, .tmp 5]) (N := 20) Tryz.func222 rfl rfl rfl rfl ?_;refine st 25 [] (k_ite H (fun c0 H => ?_) (fun c0 H => ?_))
 ·obtain rfl := si H;exact st 20 [true] (k_retQ ⟨_, by kernel_rfl, rfl, rfl⟩)
 refine st 7 [false] (k_ite H (fun c1 H => ?_) (fun c1 H => ?_))
 ·obtain rfl := si H;exact st 20 [true] (k_retQ ⟨_, by kernel_rfl, rfl, rfl⟩)
 refine st 7 [false] (k_ite H (fun c2 H => ?_) (fun c2 H => ?_))
 ·obtain rfl := si H;exact st 24 [true] (k_retQ ⟨_, by kernel_rfl, rfl, rfl⟩)
 refine st 7 [false] (k_ite H (fun c3 H => ?_) (fun c3 H => ?_))
 ·obtain rfl := si H;exact st 22 [true, true] (k_retQ ⟨_, by kernel_rfl, rfl, rfl⟩)
 refine st 4 [false] (k_ite H (fun c4 H => ?_) (fun c4 H => ?_))
 ·obtain rfl := si H;exact st 20 [true] (k_retQ ⟨_, by kernel_rfl, rfl, rfl⟩)
 obtain rfl := si H;exact st 16 [false] (k_retQ ⟨_, by kernel_rfl, rfl, rfl⟩)
def order_Right_1.m (x0 : Int) : Option Bool :=
  ((attr_Char.m x0).bind fun t0 => (some (!t0)))
theorem order_Right_1.calls {x0 : Int} {h : Heap} {r : Bool} (H : order_Right_1.m x0 = some r)   :
    Ret Tryz.prog 223 #[.int .u8 x0] h (fun v h' => .bool r = v ∧ h' = h) := by
 unfold order_Right_1.m at H;refine fn_of (rs := [.tmp 2]) (N := 6) Tryz.func223 rfl rfl rfl rfl ?_;refine st 7 [] (k_call H (fun _ m => attr_Char.calls m) ?_);rintro t0 _ _ H ⟨rfl, rfl⟩;obtain rfl := si H;exact st 3 [] (k_retQ ⟨_, by kernel_rfl, rfl, rfl⟩)
def slices_IndexFunc_bytes__order_Right_1.l1.m (K : Nat) (x1 : (List Int)) : Nat → Int → Option (Int ⊕ (Unit))
  | 0, _ => none
  | k + 1, x0 => (letJ (α := Bool → Option (Int ⊕ (Unit))) (fun x2 => (bif x2 then (if 0 ≤ x0 then (if x0 < (x1.length : Int) then ((order_Right_1.m (at_ x1 x0)).bind fun t0 => bif t0 then (some (Sum.inl x0)) else (slices_IndexFunc_bytes__order_Right_1.l1.m K x1 k (w64 (x0 + 1)))) else none) else none) else (some (Sum.inr ())))) fun j0 => (if x0 < (x1.length : Int) then (j0 true) else (j0 false)))
def slices_IndexFunc_bytes__order_Right_1.m (K : Nat) (x0 : (List Int)) : Option Int :=
  ((slices_IndexFunc_bytes__order_Right_1.l1.m K x0 K 0).bind fun s0 => match s0 with | .inl q => (some q) | .inr _ => (some (-1)))
theorem slices_IndexFunc_bytes__order_Right_1.calls {G : Gh} {K : Nat} {x0 : (List Int)} {a0 : Option Addr} {p0 : Nat} {n0 : Nat} {h : Heap} {r : Int} (H : slices_IndexFunc_bytes__order_Right_1.m K x0 = some r)  (s0 : Sn (tInt .u8) G h a0 p0 n0 x0) :
    Ret Tryz.prog 172 #[.slice a0 n0 p0, .func (.func 223) #[] #[]] h (fun v h' => iv r = v ∧ h' = h) := by
 unfold slices_IndexFunc_bytes__order_Right_1.m at H;obtain rfl := s0.len.symm;refine fn_of (rs := [.tmp 4]) (N := 19) Tryz.func172 rfl rfl rfl rfl ?_;refine st 12 [] ?_;obtain ⟨s1, m0, HR0⟩ := bind_some H;refine k_loop 0 (fun k' ρ h0 => ∃ (x1 : Int), slices_IndexFunc_bytes__order_Right_1.l1.m K x0 k' x1 = some s1 ∧ Fits [(0, .slice a0 x0.length p0), (1, .func (.func 223) #[] #[]), (7, iv (x0.length : Int)), (8, iv x1)] ρ ∧ h = h0) (fun ρ h0 => Sum.inr () = s1 ∧ Fits [] ρ ∧ h = h0) K ⟨0, m0, ft, rfl⟩ ?_ rfl ?_;rotate_left
 ·rintro ρ h0 ⟨rfl, hf, rfl⟩;have H := HR0;try dsimp only at H
  refine k_fits _ hf ?_ rfl;obtain rfl := si H;exact st 4 [] (k_retQ ⟨_, by kernel_rfl, rfl, rfl⟩)
 clear m0 H;rintro k' ρ h0 ⟨x1, H, hf, rfl⟩;cases k' with
 | zero => cases H
 | succ k =>
  rw [slices_IndexFunc_bytes__order_Right_1.l1.m] at H;refine k_fits _ hf ?_ rfl;refine st 1 [] ?_;obtain ⟨j0, e0, H⟩ := letJ_some H;refine k_join (fun ρ h0 => ∃ (x2 : Bool), j0 x2 = some s1 ∧ Fits [(0, .slice a0 x0.length p0), (1, .func (.func 223) #[] #[]), (7, iv (x0.length : Int)), (8, iv x1), (9, .bool x2)] ρ ∧ h = h0) ?_ ?_
  ·refine st 1 [] (k_ite H (fun c2 H => ?_) (fun c2 H => ?_))
   ·exact st 1 [] (k_end ⟨true, H, ft, rfl⟩)
   exact st 1 [] (k_end ⟨false, H, ft, rfl⟩)
  clear H;rintro ρ h0 ⟨x2, H, hf, rfl⟩;refine k_fits _ hf ?_ rfl;subst e0;try dsimp only at H
  cases x2
  ·rw [cond_false] at H;refine st 2 [false] (k_out rfl ?_);obtain rfl := si H;exact xE ⟨rfl, trivial, rfl⟩
  rw [cond_true] at H;obtain ⟨c0, H⟩ := guard_pos H;obtain ⟨c1, H⟩ := guard_pos H;refine st 15 [true] (k_val (elemPtr a0 (x1.toNat * 1)) (pI (e := 5) (ik := .i64) s0 c0 c1) ?_);refine k_op (lC (s0.cell1 c0 c1) ?_);refine k_call H (fun _ m => order_Right_1.calls m) ?_;rintro t0 _ _ H ⟨rfl, rfl⟩;cases t0
  ·rw [cond_false] at H;exact st 8 [false] (k_endL ⟨k, Nat.lt_succ_self _, (w64 (x1 + 1)), H, ft, rfl⟩)
  rw [cond_true] at H;refine st 7 [true] (k_retQ (krL ?_));obtain rfl := si H;obtain rfl := Option.some.inj HR0;exact ⟨_, by kernel_rfl, rfl, rfl⟩
def slices_ContainsFunc_bytes__order_Right_1.m (K : Nat) (x0 : (List Int)) : Option Bool :=
  ((slices_IndexFunc_bytes__order_Right_1.m K x0).bind fun t0 => (some (decide (t0 ≥ 0))))
theorem slices_ContainsFunc_bytes__order_Right_1.calls {B I : Gh} {h : Heap} {K : Nat} {x0 : (List Int)} {a0 : Option Addr} {p0 : Nat} {n0 : Nat} {r : Bool} (H : slices_ContainsFunc_bytes__order_Right_1.m K x0 = some r)  :
    Fc Tryz.prog 176 #[.slice a0 n0 p0, .func (.func 223) #[] #[]] [rR (tInt .u8) .b a0 p0 n0 x0] B I h (fun v L => v = .bool r ∧ L = []) := by
 refine fc_of fun E hs => ?_;unfold slices_ContainsFunc_bytes__order_Right_1.m at H;cases hs.nR d0;refine fn_of (rs := [.tmp 4]) (N := 9) Tryz.func176 rfl rfl rfl rfl ?_;refine st 8 [] (k_call H (fun _ m => slices_IndexFunc_bytes__order_Right_1.calls m (hs.sR d0)) ?_);rintro t0 _ _ H ⟨rfl, rfl⟩;obtain rfl := si H;exact st 3 [] (k_retQ ⟨_, by kernel_rfl, I, _, ⟨rfl, rfl⟩, hs.pk .n⟩)
end Go.Proofs.YtjkbhpokboolpaaGreatDoor.Sx
