import Derived.Test.YtfkdbplnjlkcdaaGreatDoorProg
import Derived.Test.YtfkdbplnjlkcdaaGreatDoorV4
import Derived.Test.YtfkdbplnjlkcdaaGreatDoorV5
import Derived.Test.YtfkdbplnjlkcdaaGreatDoorVF
import Derived.Test.YtfkdbplnjlkcdaaGreatDoorV6
import Derived.Test.YtfkdbplnjlkcdaaGreatDoorV7
import Derived.Test.YtfkdbplnjlkcdaaGreatDoorV9
import Derived.Test.YtfkdbplnjlkcdaaGreatDoorVD
import Derived.Test.YtfkdbplnjlkcdaaGreatDoorVC
namespace Go.Proofs.YtfkdbplnjlkcdaaGreatDoor.Sx
open Go
set_option maxRecDepth 100000
set_option maxHeartbeats 4000000
structure api_Pack where
  Ack : Int
  Num : Int
  Last : Bool
  Data : (List Int)
  deriving DecidableEq, Inhabited
def t_api_Pack : Ty api_Pack where
  size := 4
  rep I h cs x := ∃ a_3, ∃ c_3, ∃ n_3, cs = [.int .i64 x.Ack, .int .i64 x.Num, .bool x.Last, .slice a_3 n_3 c_3] ∧ (Rd (tInt .u8) I h a_3 c_3 x.Data ∧ x.Data.length = n_3)
  len := by rintro _ _ _ _ ⟨_, _, _, rfl, _⟩; rfl
  one := by
    rintro _ _ _ _ ⟨e0, e1, e2, rfl, q0⟩ v hv
    simp only [List.mem_cons, List.not_mem_nil, or_false] at hv
    rcases hv with rfl | rfl | rfl | rfl
    · exact rfl
    · exact rfl
    · exact rfl
    · exact rfl
  up := by rintro _ _ _ _ _ _ u ⟨e0, e1, e2, rfl, q0⟩; exact ⟨e0, e1, e2, rfl, ⟨q0.1.up u, q0.2⟩⟩
theorem t_api_Pack.open_ {I : Gh} {h : Heap} {cs : List Value} {x : api_Pack} (r : t_api_Pack.rep I h cs x) : ∃ a_3, ∃ c_3, ∃ n_3, cs = [.int .i64 x.Ack, .int .i64 x.Num, .bool x.Last, .slice a_3 n_3 c_3] ∧ (Rd (tInt .u8) I h a_3 c_3 x.Data ∧ x.Data.length = n_3) := r
structure line_Line where
  queue' : (List api_Pack)
  given' : Int
  await' : Int
  kept' : (List (Int × api_Pack))
  coming' : (List Int)
  wait' : Int
  left' : Int
  owes' : Bool
  deriving DecidableEq, Inhabited
structure api_Seen where
  Top : Int
  Bits : Int
  deriving DecidableEq, Inhabited
structure api_Peer where
  Addr : ByteArray
  Seq : Int
  deriving DecidableEq, Inhabited
structure roam_Gate where
  Key : (List Int)
  Dir : Int
  Seen : api_Seen
  Peer : api_Peer
  deriving DecidableEq, Inhabited
structure side_side where
  key' : (List Int)
  gate' : roam_Gate
  line' : line_Line
  dir' : Int
  seq' : Int
  deriving DecidableEq, Inhabited
structure api_Attr where
  Protected : Bool
  Numeric : Bool
  Show : Int
  Modified : Bool
  deriving DecidableEq, Inhabited
structure api_Cell where
  Field : Bool
  Attr : api_Attr
  Char : Int
  deriving DecidableEq, Inhabited
def t_api_Cell : Ty api_Cell where
  size := 6
  rep I h cs x := cs = [.bool x.Field, .bool x.Attr.Protected, .bool x.Attr.Numeric, .int .i64 x.Attr.Show, .bool x.Attr.Modified, .int .u8 x.Char]
  len := by rintro _ _ _ _ rfl; rfl
  one := by
    rintro _ _ _ _ rfl v hv
    simp only [List.mem_cons, List.not_mem_nil, or_false] at hv
    rcases hv with rfl | rfl | rfl | rfl | rfl | rfl
    · exact rfl
    · exact rfl
    · exact rfl
    · exact rfl
    · exact rfl
    · exact rfl
  up := by intro _ _ _ _ _ _ _ e; exact e
theorem t_api_Cell.open_ {I : Gh} {h : Heap} {cs : List Value} {x : api_Cell} (r : t_api_Cell.rep I h cs x) : cs = [.bool x.Field, .bool x.Attr.Protected, .bool x.Attr.Numeric, .int .i64 x.Attr.Show, .bool x.Attr.Modified, .int .u8 x.Char] := r
structure api_Screen where
  Rows : Int
  Cols : Int
  Cells : (List api_Cell)
  Cursor : Int
  Locked : Bool
  Insert : Bool
  deriving DecidableEq, Inhabited
structure api_Key where
  Kind : Int
  Char : Int
  deriving DecidableEq, Inhabited
structure api_Event where
  Host : Bool
  Key : api_Key
  Code : Int
  Bytes : (List Int)
  deriving DecidableEq, Inhabited
def t_api_Event : Ty api_Event where
  size := 5
  rep I h cs x := ∃ a_3, ∃ c_3, ∃ n_3, cs = [.bool x.Host, .int .i64 x.Key.Kind, .int .u8 x.Key.Char, .int .i64 x.Code, .slice a_3 n_3 c_3] ∧ (Rd (tInt .u8) I h a_3 c_3 x.Bytes ∧ x.Bytes.length = n_3)
  len := by rintro _ _ _ _ ⟨_, _, _, rfl, _⟩; rfl
  one := by
    rintro _ _ _ _ ⟨e0, e1, e2, rfl, q0⟩ v hv
    simp only [List.mem_cons, List.not_mem_nil, or_false] at hv
    rcases hv with rfl | rfl | rfl | rfl | rfl
    · exact rfl
    · exact rfl
    · exact rfl
    · exact rfl
    · exact rfl
  up := by rintro _ _ _ _ _ _ u ⟨e0, e1, e2, rfl, q0⟩; exact ⟨e0, e1, e2, rfl, ⟨q0.1.up u, q0.2⟩⟩
theorem t_api_Event.open_ {I : Gh} {h : Heap} {cs : List Value} {x : api_Event} (r : t_api_Event.rep I h cs x) : ∃ a_3, ∃ c_3, ∃ n_3, cs = [.bool x.Host, .int .i64 x.Key.Kind, .int .u8 x.Key.Char, .int .i64 x.Code, .slice a_3 n_3 c_3] ∧ (Rd (tInt .u8) I h a_3 c_3 x.Bytes ∧ x.Bytes.length = n_3) := r
structure side_Client where
  side' : side_side
  s' : api_Screen
  todo' : (List (List Int))
  sent' : (List (List Int))
  events' : (List api_Event)
  deriving DecidableEq, Inhabited
structure side_Host where
  side' : side_side
  got' : (List (List Int))
  deriving DecidableEq, Inhabited
structure api_Mail where
  From : ByteArray
  To : Int
  Goal : ByteArray
  Bytes : (List Int)
  deriving DecidableEq, Inhabited
def t_api_Mail : Ty api_Mail where
  size := 4
  rep I h cs x := ∃ a_3, ∃ c_3, ∃ n_3, cs = [.string x.From, .int .i64 x.To, .string x.Goal, .slice a_3 n_3 c_3] ∧ (Rd (tInt .u8) I h a_3 c_3 x.Bytes ∧ x.Bytes.length = n_3)
  len := by rintro _ _ _ _ ⟨_, _, _, rfl, _⟩; rfl
  one := by
    rintro _ _ _ _ ⟨e0, e1, e2, rfl, q0⟩ v hv
    simp only [List.mem_cons, List.not_mem_nil, or_false] at hv
    rcases hv with rfl | rfl | rfl | rfl
    · exact rfl
    · exact rfl
    · exact rfl
    · exact rfl
  up := by rintro _ _ _ _ _ _ u ⟨e0, e1, e2, rfl, q0⟩; exact ⟨e0, e1, e2, rfl, ⟨q0.1.up u, q0.2⟩⟩
theorem t_api_Mail.open_ {I : Gh} {h : Heap} {cs : List Value} {x : api_Mail} (r : t_api_Mail.rep I h cs x) : ∃ a_3, ∃ c_3, ∃ n_3, cs = [.string x.From, .int .i64 x.To, .string x.Goal, .slice a_3 n_3 c_3] ∧ (Rd (tInt .u8) I h a_3 c_3 x.Bytes ∧ x.Bytes.length = n_3) := r
structure net_flight where
  m' : api_Mail
  to' : Int
  deriving DecidableEq, Inhabited
def t_net_flight : Ty net_flight where
  size := 5
  rep I h cs x := ∃ a_0_3, ∃ c_0_3, ∃ n_0_3, cs = [.string x.m'.From, .int .i64 x.m'.To, .string x.m'.Goal, .slice a_0_3 n_0_3 c_0_3, .int .i64 x.to'] ∧ (Rd (tInt .u8) I h a_0_3 c_0_3 x.m'.Bytes ∧ x.m'.Bytes.length = n_0_3)
  len := by rintro _ _ _ _ ⟨_, _, _, rfl, _⟩; rfl
  one := by
    rintro _ _ _ _ ⟨e0, e1, e2, rfl, q0⟩ v hv
    simp only [List.mem_cons, List.not_mem_nil, or_false] at hv
    rcases hv with rfl | rfl | rfl | rfl | rfl
    · exact rfl
    · exact rfl
    · exact rfl
    · exact rfl
    · exact rfl
  up := by rintro _ _ _ _ _ _ u ⟨e0, e1, e2, rfl, q0⟩; exact ⟨e0, e1, e2, rfl, ⟨q0.1.up u, q0.2⟩⟩
theorem t_net_flight.open_ {I : Gh} {h : Heap} {cs : List Value} {x : net_flight} (r : t_net_flight.rep I h cs x) : ∃ a_0_3, ∃ c_0_3, ∃ n_0_3, cs = [.string x.m'.From, .int .i64 x.m'.To, .string x.m'.Goal, .slice a_0_3 n_0_3 c_0_3, .int .i64 x.to'] ∧ (Rd (tInt .u8) I h a_0_3 c_0_3 x.m'.Bytes ∧ x.m'.Bytes.length = n_0_3) := r
structure net_Air where
  l' : (List net_flight)
  deriving DecidableEq, Inhabited
structure bytes_Cursor where
  b' : (List Int)
  at' : Int
  err' : GoErr
  deriving DecidableEq, Inhabited
structure api_Wcc where
  Alarm : Bool
  Unlock : Bool
  Reset : Bool
  deriving DecidableEq, Inhabited
structure api_Order where
  Kind : Int
  Text : (List Int)
  Attr : api_Attr
  Addr : Int
  Char : Int
  deriving DecidableEq, Inhabited
def t_api_Order : Ty api_Order where
  size := 8
  rep I h cs x := ∃ a_1, ∃ c_1, ∃ n_1, cs = [.int .i64 x.Kind, .slice a_1 n_1 c_1, .bool x.Attr.Protected, .bool x.Attr.Numeric, .int .i64 x.Attr.Show, .bool x.Attr.Modified, .int .i64 x.Addr, .int .u8 x.Char] ∧ (Rd (tInt .u8) I h a_1 c_1 x.Text ∧ x.Text.length = n_1)
  len := by rintro _ _ _ _ ⟨_, _, _, rfl, _⟩; rfl
  one := by
    rintro _ _ _ _ ⟨e0, e1, e2, rfl, q0⟩ v hv
    simp only [List.mem_cons, List.not_mem_nil, or_false] at hv
    rcases hv with rfl | rfl | rfl | rfl | rfl | rfl | rfl | rfl
    · exact rfl
    · exact rfl
    · exact rfl
    · exact rfl
    · exact rfl
    · exact rfl
    · exact rfl
    · exact rfl
  up := by rintro _ _ _ _ _ _ u ⟨e0, e1, e2, rfl, q0⟩; exact ⟨e0, e1, e2, rfl, ⟨q0.1.up u, q0.2⟩⟩
structure api_Out where
  Cmd : Int
  Wcc : api_Wcc
  Orders : (List api_Order)
  deriving DecidableEq, Inhabited
structure api_Entry where
  Addr : Int
  Text : (List Int)
  deriving DecidableEq, Inhabited
def t_api_Entry : Ty api_Entry where
  size := 2
  rep I h cs x := ∃ a_1, ∃ c_1, ∃ n_1, cs = [.int .i64 x.Addr, .slice a_1 n_1 c_1] ∧ (Rd (tInt .u8) I h a_1 c_1 x.Text ∧ x.Text.length = n_1)
  len := by rintro _ _ _ _ ⟨_, _, _, rfl, _⟩; rfl
  one := by
    rintro _ _ _ _ ⟨e0, e1, e2, rfl, q0⟩ v hv
    simp only [List.mem_cons, List.not_mem_nil, or_false] at hv
    rcases hv with rfl | rfl
    · exact rfl
    · exact rfl
  up := by rintro _ _ _ _ _ _ u ⟨e0, e1, e2, rfl, q0⟩; exact ⟨e0, e1, e2, rfl, ⟨q0.1.up u, q0.2⟩⟩
theorem t_api_Entry.open_ {I : Gh} {h : Heap} {cs : List Value} {x : api_Entry} (r : t_api_Entry.rep I h cs x) : ∃ a_1, ∃ c_1, ∃ n_1, cs = [.int .i64 x.Addr, .slice a_1 n_1 c_1] ∧ (Rd (tInt .u8) I h a_1 c_1 x.Text ∧ x.Text.length = n_1) := r
structure api_In where
  Aid : Int
  Cursor : Int
  Fields : (List api_Entry)
  deriving DecidableEq, Inhabited
structure Anon_is_n where
  is' : Bool
  n' : Int
  deriving DecidableEq, Inhabited
def t_Anon_is_n : Ty Anon_is_n where
  size := 2
  rep I h cs x := cs = [.bool x.is', .int .i64 x.n']
  len := by rintro _ _ _ _ rfl; rfl
  one := by
    rintro _ _ _ _ rfl v hv
    simp only [List.mem_cons, List.not_mem_nil, or_false] at hv
    rcases hv with rfl | rfl
    · exact rfl
    · exact rfl
  up := by intro _ _ _ _ _ _ _ e; exact e
theorem t_Anon_is_n.open_ {I : Gh} {h : Heap} {cs : List Value} {x : Anon_is_n} (r : t_Anon_is_n.rep I h cs x) : cs = [.bool x.is', .int .i64 x.n'] := r
structure hash_Sum where
  h' : (List Int)
  rest' : (List Int)
  n' : Int
  deriving DecidableEq, Inhabited
structure api_Frame where
  Dir : Int
  Seq : Int
  Body : (List Int)
  deriving DecidableEq, Inhabited
structure api_Fate where
  Lost : Bool
  Twice : Bool
  Delay : Int
  deriving DecidableEq, Inhabited
def t_api_Fate : Ty api_Fate where
  size := 3
  rep I h cs x := cs = [.bool x.Lost, .bool x.Twice, .int .i64 x.Delay]
  len := by rintro _ _ _ _ rfl; rfl
  one := by
    rintro _ _ _ _ rfl v hv
    simp only [List.mem_cons, List.not_mem_nil, or_false] at hv
    rcases hv with rfl | rfl | rfl
    · exact rfl
    · exact rfl
    · exact rfl
  up := by intro _ _ _ _ _ _ _ e; exact e
structure api_Act where
  Kind : Int
  Key : api_Key
  Out : api_Out
  From : ByteArray
  To : Int
  Bytes : (List Int)
  deriving DecidableEq, Inhabited
def t_api_Act : Ty api_Act where
  size := 11
  rep I h cs x := ∃ a_2_2, ∃ c_2_2, ∃ n_2_2, ∃ a_5, ∃ c_5, ∃ n_5, cs = [.int .i64 x.Kind, .int .i64 x.Key.Kind, .int .u8 x.Key.Char, .int .i64 x.Out.Cmd, .bool x.Out.Wcc.Alarm, .bool x.Out.Wcc.Unlock, .bool x.Out.Wcc.Reset, .slice a_2_2 n_2_2 c_2_2, .string x.From, .int .i64 x.To, .slice a_5 n_5 c_5] ∧ (Rd t_api_Order I h a_2_2 c_2_2 x.Out.Orders ∧ x.Out.Orders.length = n_2_2) ∧ (Rd (tInt .u8) I h a_5 c_5 x.Bytes ∧ x.Bytes.length = n_5)
  len := by rintro _ _ _ _ ⟨_, _, _, _, _, _, rfl, _, _⟩; rfl
  one := by
    rintro _ _ _ _ ⟨e0, e1, e2, e3, e4, e5, rfl, q0, q1⟩ v hv
    simp only [List.mem_cons, List.not_mem_nil, or_false] at hv
    rcases hv with rfl | rfl | rfl | rfl | rfl | rfl | rfl | rfl | rfl | rfl | rfl
    · exact rfl
    · exact rfl
    · exact rfl
    · exact rfl
    · exact rfl
    · exact rfl
    · exact rfl
    · exact rfl
    · exact rfl
    · exact rfl
    · exact rfl
  up := by rintro _ _ _ _ _ _ u ⟨e0, e1, e2, e3, e4, e5, rfl, q0, q1⟩; exact ⟨e0, e1, e2, e3, e4, e5, rfl, ⟨q0.1.up u, q0.2⟩, ⟨q1.1.up u, q1.2⟩⟩
theorem t_api_Act.open_ {I : Gh} {h : Heap} {cs : List Value} {x : api_Act} (r : t_api_Act.rep I h cs x) : ∃ a_2_2, ∃ c_2_2, ∃ n_2_2, ∃ a_5, ∃ c_5, ∃ n_5, cs = [.int .i64 x.Kind, .int .i64 x.Key.Kind, .int .u8 x.Key.Char, .int .i64 x.Out.Cmd, .bool x.Out.Wcc.Alarm, .bool x.Out.Wcc.Unlock, .bool x.Out.Wcc.Reset, .slice a_2_2 n_2_2 c_2_2, .string x.From, .int .i64 x.To, .slice a_5 n_5 c_5] ∧ (Rd t_api_Order I h a_2_2 c_2_2 x.Out.Orders ∧ x.Out.Orders.length = n_2_2) ∧ (Rd (tInt .u8) I h a_5 c_5 x.Bytes ∧ x.Bytes.length = n_5) := r
structure api_Script where
  Rows : Int
  Cols : Int
  Key : (List Int)
  Acts : (List api_Act)
  Fates : (List api_Fate)
  deriving DecidableEq, Inhabited
structure world_world where
  s' : api_Script
  c' : side_Client
  h' : side_Host
  air' : net_Air
  addr' : ByteArray
  fates' : (List api_Fate)
  asked' : (List (List Int))
  evil' : (List api_Mail)
  deriving DecidableEq, Inhabited
structure api_Tale where
  Asked : (List (List Int))
  Sent : (List (List Int))
  Got : (List (List Int))
  Events : (List api_Event)
  Screen : api_Screen
  Waits : (List Int)
  Peers : (List api_Peer)
  Addr : ByteArray
  deriving DecidableEq, Inhabited
abbrev cl_api_Pack (x : api_Pack) (a3 : Option Addr) (n3 p3 : Nat) : List Value := [.int .i64 x.Ack, .int .i64 x.Num, .bool x.Last, .slice a3 n3 p3]
abbrev cl_roam_Gate (x : roam_Gate) (a0 : Option Addr) (n0 p0 : Nat) : List Value := [.slice a0 n0 p0, .int .i64 x.Dir, .int .i64 x.Seen.Top, .int .u64 x.Seen.Bits, .string x.Peer.Addr, .int .i64 x.Peer.Seq]
abbrev cl_side_side (x : side_side) (a0 : Option Addr) (n0 p0 : Nat) (a1 : Option Addr) (n1 p1 : Nat) (b7 : Nat) : List Value := [.slice a0 n0 p0, .slice a1 n1 p1, .int .i64 x.gate'.Dir, .int .i64 x.gate'.Seen.Top, .int .u64 x.gate'.Seen.Bits, .string x.gate'.Peer.Addr, .int .i64 x.gate'.Peer.Seq, pv b7, .int .i64 x.dir', .int .i64 x.seq']
abbrev cl_api_Attr (x : api_Attr) : List Value := [.bool x.Protected, .bool x.Numeric, .int .i64 x.Show, .bool x.Modified]
abbrev cl_api_Cell (x : api_Cell) : List Value := [.bool x.Field, .bool x.Attr.Protected, .bool x.Attr.Numeric, .int .i64 x.Attr.Show, .bool x.Attr.Modified, .int .u8 x.Char]
abbrev cl_api_Screen (x : api_Screen) (a2 : Option Addr) (n2 p2 : Nat) : List Value := [.int .i64 x.Rows, .int .i64 x.Cols, .slice a2 n2 p2, .int .i64 x.Cursor, .bool x.Locked, .bool x.Insert]
abbrev cl_side_Client (x : side_Client) (a0 : Option Addr) (n0 p0 : Nat) (a1 : Option Addr) (n1 p1 : Nat) (b7 : Nat) (a12 : Option Addr) (n12 p12 : Nat) (a16 : Option Addr) (n16 p16 : Nat) (a17 : Option Addr) (n17 p17 : Nat) (a18 : Option Addr) (n18 p18 : Nat) : List Value := [.slice a0 n0 p0, .slice a1 n1 p1, .int .i64 x.side'.gate'.Dir, .int .i64 x.side'.gate'.Seen.Top, .int .u64 x.side'.gate'.Seen.Bits, .string x.side'.gate'.Peer.Addr, .int .i64 x.side'.gate'.Peer.Seq, pv b7, .int .i64 x.side'.dir', .int .i64 x.side'.seq', .int .i64 x.s'.Rows, .int .i64 x.s'.Cols, .slice a12 n12 p12, .int .i64 x.s'.Cursor, .bool x.s'.Locked, .bool x.s'.Insert, .slice a16 n16 p16, .slice a17 n17 p17, .slice a18 n18 p18]
abbrev cl_side_Host (x : side_Host) (a0 : Option Addr) (n0 p0 : Nat) (a1 : Option Addr) (n1 p1 : Nat) (b7 : Nat) (a10 : Option Addr) (n10 p10 : Nat) : List Value := [.slice a0 n0 p0, .slice a1 n1 p1, .int .i64 x.side'.gate'.Dir, .int .i64 x.side'.gate'.Seen.Top, .int .u64 x.side'.gate'.Seen.Bits, .string x.side'.gate'.Peer.Addr, .int .i64 x.side'.gate'.Peer.Seq, pv b7, .int .i64 x.side'.dir', .int .i64 x.side'.seq', .slice a10 n10 p10]
abbrev cl_api_Mail (x : api_Mail) (a3 : Option Addr) (n3 p3 : Nat) : List Value := [.string x.From, .int .i64 x.To, .string x.Goal, .slice a3 n3 p3]
abbrev cl_net_flight (x : net_flight) (a3 : Option Addr) (n3 p3 : Nat) : List Value := [.string x.m'.From, .int .i64 x.m'.To, .string x.m'.Goal, .slice a3 n3 p3, .int .i64 x.to']
abbrev cl_api_Act (x : api_Act) (a7 : Option Addr) (n7 p7 : Nat) (a10 : Option Addr) (n10 p10 : Nat) : List Value := [.int .i64 x.Kind, .int .i64 x.Key.Kind, .int .u8 x.Key.Char, .int .i64 x.Out.Cmd, .bool x.Out.Wcc.Alarm, .bool x.Out.Wcc.Unlock, .bool x.Out.Wcc.Reset, .slice a7 n7 p7, .string x.From, .int .i64 x.To, .slice a10 n10 p10]
abbrev cl_api_Script (x : api_Script) (a2 : Option Addr) (n2 p2 : Nat) (a3 : Option Addr) (n3 p3 : Nat) (a4 : Option Addr) (n4 p4 : Nat) : List Value := [.int .i64 x.Rows, .int .i64 x.Cols, .slice a2 n2 p2, .slice a3 n3 p3, .slice a4 n4 p4]
abbrev cl_world_world (x : world_world) (a2 : Option Addr) (n2 p2 : Nat) (a3 : Option Addr) (n3 p3 : Nat) (a4 : Option Addr) (n4 p4 : Nat) (b5 : Nat) (b6 : Nat) (b7 : Nat) (a9 : Option Addr) (n9 p9 : Nat) (a10 : Option Addr) (n10 p10 : Nat) (a11 : Option Addr) (n11 p11 : Nat) : List Value := [.int .i64 x.s'.Rows, .int .i64 x.s'.Cols, .slice a2 n2 p2, .slice a3 n3 p3, .slice a4 n4 p4, pv b5, pv b6, pv b7, .string x.addr', .slice a9 n9 p9, .slice a10 n10 p10, .slice a11 n11 p11]
def line_New.m  : Option line_Line :=
  (some (⟨[], 0, 1, [], [], 1, 0, false⟩ : line_Line))
theorem line_New.calls {B I : Gh} {h : Heap}  {r : line_Line} (H : line_New.m  = some r)  :
    Fc Tryz.prog 105 #[] [] B I h (fun v L => ∃ b1 a0 p0 n0 b2 a1 p1 n1, v = pv b1 ∧ L = [rB b1 [.slice a0 n0 p0, iv r.given', iv r.await', .map (some b2), .slice a1 n1 p1, iv r.wait', iv r.left', .bool r.owes'] 210, rO t_api_Pack .i a0 p0 n0 r.queue', rM t_api_Pack b2 r.kept', rO (tInt .u8) .i a1 p1 n1 r.coming']) := by
 refine fc_of fun E hs => ?_;unfold line_New.m at H;refine fn_of (rs := [.tmp 0]) (N := 4) Tryz.func105 rfl rfl rfl rfl ?_;refine st 6 [] (k_op (mN t_api_Pack hs ?_));intro b0 h hs;refine st 1 [] (k_op (nB hs [.slice none 0 0, iv 0, iv 1, .map (some b0), .slice none 0 0, iv 1, iv 0, .bool false] ?_));intro b3 h hs;obtain rfl := si H;exact st 2 [] (k_retQ ⟨_, by kernel_rfl, I, _, ⟨b3, none, 0, 0, b0, none, 0, 0, rfl, rfl⟩, hs.pk (.c d0 (.f imON (.c d0 (.f imON .n))))⟩)
def slices_Clone_bytes.m (x0 : (List Int)) : Option (List Int) :=
  ((app [] x0).bind fun l0 => (some l0))
theorem slices_Clone_bytes.calls {B I : Gh} {h : Heap} {x0 : (List Int)} {a0 : Option Addr} {p0 : Nat} {n0 : Nat} {r : (List Int)} (H : slices_Clone_bytes.m x0 = some r)  :
    Fc Tryz.prog 63 #[.slice a0 n0 p0] [rR (tInt .u8) .b a0 p0 n0 x0] B I h (fun v L => ∃ a1 p1 n1, v = .slice a1 n1 p1 ∧ L = [rO (tInt .u8) .i a1 p1 n1 r]) := by
 refine fc_of fun E hs => ?_;unfold slices_Clone_bytes.m at H;cases hs.nR d0;refine fn_of (rs := [.tmp 2]) (N := 8) Tryz.func63 rfl rfl rfl rfl ?_;rcases a0 with _ | ad0
 ·have e0 := ((hs.sR d0).toSl.nil rfl).1;replace H : (some []) = some r := by simpa [app, Lim, e0] using H
  obtain rfl := si H;exact st 15 [true] (k_retQ ⟨_, by kernel_rfl, I, _, ⟨none, 0, 0, rfl, rfl⟩, hs.pk (.f imON .n)⟩)
 refine st 14 [false] (k_op (nS (e := 5) hs .i (tInt .u8) ([] : List Int) [] 1 (.int .u8 0) (Reps.int (I := (Cl.G .i E.B I)) (k := .u8) (l := [])) ?_));intro b0 h hs;obtain ⟨l0, m0, H⟩ := bind_some H;refine st 1 [] (k_op (aO (e := 5) (bytes := 1) hs ((hs.sR d1).flat flat_int) m0 ?_));intro a2 p2 h hs;obtain rfl := si H;exact st 2 [] (k_retQ ⟨_, by kernel_rfl, I, _, ⟨a2, p2, l0.length, rfl, rfl⟩, hs.pk (.c d0 .n)⟩)
def side_made.m (x1 : (List Int)) (x0 : Int) : Option side_side :=
  ((slices_Clone_bytes.m x1).bind fun t0 => ((line_New.m ).bind fun t1 => (some (⟨t0, (⟨t0, (w64 (1 - x0)), (⟨0, 0⟩ : api_Seen), (⟨(⟨#[]⟩ : ByteArray), 0⟩ : api_Peer)⟩ : roam_Gate), t1, x0, 0⟩ : side_side))))
theorem side_made.calls {B I : Gh} {h : Heap} {x1 : (List Int)} {x0 : Int} {a1 : Option Addr} {p1 : Nat} {n0 : Nat} {r : side_side} (H : side_made.m x1 x0 = some r)  :
    Fc Tryz.prog 72 #[.slice a1 n0 p1, iv x0] [rR (tInt .u8) .b a1 p1 n0 x1] B I h (fun v L => ∃ a2 p2 n1 a3 p3 n2 b1 a4 p4 n3 b2 a5 p5 n4, v = .agg (cl_side_side r a2 n1 p2 a3 n2 p3 b1).toArray ∧ L = [rR (tInt .u8) .i a2 p2 n1 r.key', rR (tInt .u8) .i a3 p3 n2 r.gate'.Key, rB b1 [.slice a4 n3 p4, iv r.line'.given', iv r.line'.await', .map (some b2), .slice a5 n4 p5, iv r.line'.wait', iv r.line'.left', .bool r.line'.owes'] 210, rO t_api_Pack .i a4 p4 n3 r.line'.queue', rM t_api_Pack b2 r.line'.kept', rO (tInt .u8) .i a5 p5 n4 r.line'.coming']) := by
 refine fc_of fun E hs => ?_;unfold side_made.m at H;cases hs.nR d0;refine fn_of2 (rs := [.cell 4 120]) (N := 16) Tryz.func72 rfl rfl rfl rfl ?_;refine st 2 [] (k_op (nA hs [.slice none 0 0, .slice none 0 0, iv 0, iv 0, .int .u64 0, .string (⟨#[]⟩ : ByteArray), iv 0, .pointer none, iv 0, iv 0] (.agg #[.slice none 0 0, .slice none 0 0, iv 0, iv 0, .int .u64 0, .string (⟨#[]⟩ : ByteArray), iv 0, .pointer none, iv 0, iv 0]) ?_));intro b4 h hs;obtain ⟨hk, bk⟩ := hs.call tk0 (.c (qB d1) .n);refine st 4 [] (k_call H (fun _ m => slices_Clone_bytes.calls m hk) ?_);rintro t0 _ h H ⟨I, _, ⟨a0, p0, n5, rfl, rfl⟩, hk⟩;replace hs := bk hk ct1 rfl;cases hs.nO d0;obtain ⟨hk, bk⟩ := hs.call tk0 .n;refine st 9 [] (k_call H (fun _ m => line_New.calls m hk) ?_);rintro t1 _ h H ⟨I, _, ⟨b0, a6, p6, n6, b3, a7, p7, n7, rfl, rfl⟩, hk⟩;replace hs := bk hk ct4 rfl;cases hs.nO d1;cases hs.nO d3;refine st 2 [] (k_op (sN0 (hs.f d5) [.slice a0 t0.length p0, .slice a0 t0.length p0, iv (w64 (1 - x0)), iv 0, .int .u64 0, .string (⟨#[]⟩ : ByteArray), iv 0, pv b0, iv x0, iv 0] (ones_of rfl) ?_));intro h hs;refine st 1 [] ?_;obtain ⟨I, hs⟩ := (hs.f d5).fO;replace hs := hs.dup d0 (fun _ x => x);obtain rfl := si H;exact k_retQ ⟨[.agg #[.slice a0 t0.length p0, .slice a0 t0.length p0, iv (w64 (1 - x0)), iv 0, .int .u64 0, .string (⟨#[]⟩ : ByteArray), iv 0, pv b0, iv x0, iv 0]], (.cons (.agg (by kernel_rfl) (by kernel_rfl) (by kernel_rfl) ((hs.bl d2).seg_ 0 10 (Nat.le_of_ble_eq_true rfl))) .nil), I, _, ⟨a0, p0, t0.length, a0, p0, t0.length, b0, a6, p6, t1.queue'.length, b3, a7, p7, t1.coming'.length, rfl, rfl⟩, hs.pk (.c d1 (.c d0 (.c d1 (.c d1 (.c d1 (.c d1 .n))))))⟩
def grid_New.m (x0 : Int) (x1 : Int) : Option (api_Screen × GoErr) :=
  (if x0 < 1 then none else (if x1 < 1 then none else (if x0 > 16383 then none else (if x0 ≠ 0 then (if x1 > (w64 (Int.tdiv 16383 x0)) then none else ((mk (w64 (x0 * x1)) (⟨false, (⟨false, false, 0, false⟩ : api_Attr), 0⟩ : api_Cell)).bind fun l0 => (some ((⟨x0, x1, l0, 0, false, false⟩ : api_Screen), GoErr.nil)))) else none))))
theorem grid_New.calls {B I : Gh} {h : Heap} {x0 : Int} {x1 : Int} {r : (api_Screen × GoErr)} (H : grid_New.m x0 x1 = some r)  :
    Fc Tryz.prog 5 #[iv x0, iv x1] [] B I h (fun v L => ∃ a0 p0 n0 v0, v = .tuple #[.agg (cl_api_Screen r.1 a0 n0 p0).toArray, v0] ∧ L = [rO t_api_Cell .i a0 p0 n0 r.1.Cells, rE .i v0 r.2]) := by
 refine fc_of fun E hs => ?_;unfold grid_New.m at H;refine fn_of2 (rs := [.cell 4 27, .tmp 5]) (N := 31) Tryz.func5 rfl rfl rfl rfl ?_;refine st 2 [] (k_op (nA hs [iv 0, iv 0, .slice none 0 0, iv 0, .bool false, .bool false] (.agg #[iv 0, iv 0, .slice none 0 0, iv 0, .bool false, .bool false]) ?_));intro b1 h hs;refine st 6 [] (k_ite H (fun c0 H => ?_) (fun c0 H => ?_))
 ·cases H
 refine st 2 [] (k_ite H (fun c1 H => ?_) (fun c1 H => ?_))
 ·cases H
 refine st 3 [] (k_ite H (fun c2 H => ?_) (fun c2 H => ?_))
 ·cases H
 obtain ⟨c3, H⟩ := guard_pos H;refine st 4 [] (k_val (iv (w64 (Int.tdiv 16383 x0))) (pr_quo (k := .i64) (a := 16383) (b := x0) (by kernel_rfl) (by kernel_rfl) c3) ?_);refine k_ite H (fun c4 H => ?_) (fun c4 H => ?_)
 ·cases H
 obtain ⟨l0, m0, H⟩ := bind_some H;refine st 11 [false] (k_op (nM (e := 36) (kl := .i64) (kc := .i64) (bytes := 40) hs t_api_Cell (⟨false, (⟨false, false, 0, false⟩ : api_Attr), 0⟩ : api_Cell) (.agg #[.bool false, .bool false, .bool false, iv 0, .bool false, .int .u8 0]) m0 (fun _ _ => rfl) ?_));intro b0 h hs;refine st 1 [] (k_op (sN0 (hs.f d1) [iv x0, iv x1, .slice (sa b0) l0.length l0.length, iv 0, .bool false, .bool false] (ones_of rfl) ?_));intro h hs;obtain rfl := si H;exact st 2 [] (k_retQ ⟨[.agg #[iv x0, iv x1, .slice (sa b0) l0.length l0.length, iv 0, .bool false, .bool false], .nilIface], (.cons (.agg (by kernel_rfl) (by kernel_rfl) (by kernel_rfl) ((hs.bl d0).seg_ 0 6 (Nat.le_of_ble_eq_true rfl))) (.cons (.tmp (by kernel_rfl)) .nil)), I, _, ⟨(sa b0), l0.length, l0.length, (.nilIface), rfl, rfl⟩, hs.pk (.c d1 (.f imEN .n))⟩)
def grid_Size.m (x0 : api_Screen) : Option Int :=
  (some (x0.Cells.length : Int))
theorem grid_Size.calls {B I : Gh} {h : Heap} {x0 : api_Screen} {a0 : Option Addr} {p0 : Nat} {n0 : Nat} {r : Int} (H : grid_Size.m x0 = some r)  :
    Fc Tryz.prog 71 #[.agg (cl_api_Screen x0 a0 n0 p0).toArray] [rR t_api_Cell .b a0 p0 n0 x0.Cells] B I h (fun v L => v = iv r ∧ L = []) := by
 refine fc_of fun E hs => ?_;unfold grid_Size.m at H;cases hs.nR d0;refine fn_of (rs := [.tmp 2]) (N := 6) Tryz.func71 rfl rfl rfl rfl ?_;refine st 2 [] (k_op (nB hs (cl_api_Screen x0 a0 x0.Cells.length p0) ?_));intro b0 h hs;refine st 5 [] (k_op (lB (hs.bl d0) 2 rfl ?_));obtain rfl := si H;exact st 3 [] (k_retQ ⟨_, by kernel_rfl, I, _, ⟨rfl, rfl⟩, hs.pk .n⟩)
def side_NewClient.m (x0 : (List Int)) (x1 : Int) (x2 : Int) : Option (side_Client × GoErr) :=
  ((grid_New.m x1 x2).bind fun t0 => (if t0.2 = GoErr.nil then ((grid_Size.m t0.1).bind fun t1 => (if t1 > 2000 then none else ((side_made.m x0 0).bind fun t2 => (some ((⟨t2, t0.1, [], [], []⟩ : side_Client), GoErr.nil))))) else none))
theorem side_NewClient.calls {B I : Gh} {h : Heap} {x0 : (List Int)} {x1 : Int} {x2 : Int} {a1 : Option Addr} {p1 : Nat} {n0 : Nat} {r : (side_Client × GoErr)} (H : side_NewClient.m x0 x1 x2 = some r)  :
    Fc Tryz.prog 36 #[.slice a1 n0 p1, iv x1, iv x2] [rR (tInt .u8) .b a1 p1 n0 x0] B I h (fun v L => ∃ b1 a4 p4 n1 a5 p64 n2 b2 a6 p5 n3 b3 a7 p6 n4 a8 p7 n5 a9 p8 n6 aB p9 n7 aC pA n8 v0, v = .tuple #[pv b1, v0] ∧ L = [rB b1 (cl_side_Client r.1 a4 n1 p4 a5 n2 p64 b2 a8 n5 p7 a9 n6 p8 aB n7 p9 aC n8 pA) 122, rR (tInt .u8) .i a4 p4 n1 r.1.side'.key', rR (tInt .u8) .i a5 p64 n2 r.1.side'.gate'.Key, rB b2 [.slice a6 n3 p5, iv r.1.side'.line'.given', iv r.1.side'.line'.await', .map (some b3), .slice a7 n4 p6, iv r.1.side'.line'.wait', iv r.1.side'.line'.left', .bool r.1.side'.line'.owes'] 210, rO t_api_Pack .i a6 p5 n3 r.1.side'.line'.queue', rM t_api_Pack b3 r.1.side'.line'.kept', rO (tInt .u8) .i a7 p6 n4 r.1.side'.line'.coming', rR t_api_Cell .i a8 p7 n5 r.1.s'.Cells, rO (tSl (tInt .u8)) .i a9 p8 n6 r.1.todo', rO (tSl (tInt .u8)) .i aB p9 n7 r.1.sent', rO t_api_Event .i aC pA n8 r.1.events', rE .i v0 r.2]) := by
 refine fc_of fun E hs => ?_;unfold side_NewClient.m at H;cases hs.nR d0;refine fn_of (rs := [.tmp 6, .tmp 7]) (N := 29) Tryz.func36 rfl rfl rfl rfl ?_;obtain ⟨hk, bk⟩ := hs.call tk0 .n;refine st 9 [] (k_call H (fun _ m => grid_New.calls m hk) ?_);rintro t1 _ h H ⟨I, _, ⟨a0, p0, n9, v1, rfl, rfl⟩, hk⟩;replace hs := bk hk ct2 rfl;cases hs.nO d0;refine st 3 [] (k_op (nA hs [iv 0, iv 0, .slice none 0 0, iv 0, .bool false, .bool false] (.agg #[iv 0, iv 0, .slice none 0 0, iv 0, .bool false, .bool false]) ?_));intro b6 h hs;refine k_op (sN0 hs (cl_api_Screen t1.1 a0 t1.1.Cells.length p0) (ones_of rfl) ?_);intro h hs;rcases (hs.er d2).cases with ⟨c0, rfl⟩ | ⟨c0, t2, u0, rfl⟩;rotate_left
 ·rw [if_neg c0] at H;cases H
 rw [if_pos c0] at H;refine st 8 [] (k_op (lN (hs.bl d0) 0 6 ?_));obtain ⟨hk, bk⟩ := hs.call tk0 (.c (qO d1) .n);refine k_call H (fun _ m => grid_Size.calls m hk) ?_;rintro t3 _ h H ⟨I, _, ⟨rfl, rfl⟩, hk⟩;replace hs := bk hk ct0 rfl;refine k_ite H (fun c1 H => ?_) (fun c1 H => ?_)
 ·cases H
 refine st 5 [false] ?_;obtain ⟨hs0, bk0⟩ := hs.call tk0 (.c (qL d0) (.c (qB d3) .n));have hs := hs0;refine k_regD hs0 7 ?_;refine aRun [0] 6 hs.keep ?_;refine aG 2 rfl hs.keep (lls hs0 d0 0 6 rfl) (nmL hs0 d0) ?_;obtain ⟨hk, bk⟩ := hs.call tk0 (.c (qB d1) .n);refine aO1 1 rfl (o_call H (fun _ m => side_made.calls m hk) ?_);rintro t0 _ h H ⟨I, _, ⟨a2, p2, nC, a3, p3, nD, b0, aD, pB, nE, b4, aE, pC, nF, rfl, rfl⟩, hk⟩;replace hs := bk hk ct6 rfl;cases hs.nR d0;cases hs.nR d1;cases hs.nO d3;cases hs.nO d5;refine ⟨hs.keep, ?_⟩;refine aRun [3] 3 hs.keep ?_;refine aO1 4 rfl (nB hs [.slice a2 t0.key'.length p2, .slice a3 t0.gate'.Key.length p3, iv t0.gate'.Dir, iv t0.gate'.Seen.Top, .int .u64 t0.gate'.Seen.Bits, .string t0.gate'.Peer.Addr, iv t0.gate'.Peer.Seq, pv b0, iv t0.dir', iv t0.seq', iv t1.1.Rows, iv t1.1.Cols, .slice a0 t1.1.Cells.length p0, iv t1.1.Cursor, .bool t1.1.Locked, .bool t1.1.Insert, .slice none 0 0, .slice none 0 0, .slice none 0 0] ?_);intro b5 h hs;refine ⟨hs.keep, ?_⟩;refine aRun [5, 6] 0 hs.keep ?_;replace hs := hs.pk (.c d0 (.c d0 (.c d0 (.c d0 (.c d0 (.c d0 (.c d0 .n)))))));replace hs := bk0 hs (.s ct6) rfl;refine aEnd ?_;obtain rfl := si H;obtain ⟨I, hs⟩ := (hs.f d8).fO;exact k_retQ ⟨_, by kernel_rfl, I, _, ⟨b5, a2, p2, t0.key'.length, a3, p3, t0.gate'.Key.length, b0, aD, pB, t0.line'.queue'.length, b4, aE, pC, t0.line'.coming'.length, a0, p0, t1.1.Cells.length, none, 0, 0, none, 0, 0, none, 0, 0, (.nilIface), rfl, rfl⟩, hs.pk (.c d1 (.c d1 (.c d1 (.c d1 (.c d1 (.c d1 (.c d1 (.c d0 (.f imON (.f imON (.f imON (.f imEN .n))))))))))))⟩
def side_NewHost.m (x0 : (List Int)) : Option side_Host :=
  ((side_made.m x0 1).bind fun t0 => (some (⟨t0, []⟩ : side_Host)))
theorem side_NewHost.calls {B I : Gh} {h : Heap} {x0 : (List Int)} {a0 : Option Addr} {p0 : Nat} {n0 : Nat} {r : side_Host} (H : side_NewHost.m x0 = some r)  :
    Fc Tryz.prog 37 #[.slice a0 n0 p0] [rR (tInt .u8) .b a0 p0 n0 x0] B I h (fun v L => ∃ b1 a3 p3 n1 a4 p4 n2 b2 a5 p5 n3 b3 a6 p6 n4 a7 p7 n5, v = pv b1 ∧ L = [rB b1 (cl_side_Host r a3 n1 p3 a4 n2 p4 b2 a7 n5 p7) 124, rR (tInt .u8) .i a3 p3 n1 r.side'.key', rR (tInt .u8) .i a4 p4 n2 r.side'.gate'.Key, rB b2 [.slice a5 n3 p5, iv r.side'.line'.given', iv r.side'.line'.await', .map (some b3), .slice a6 n4 p6, iv r.side'.line'.wait', iv r.side'.line'.left', .bool r.side'.line'.owes'] 210, rO t_api_Pack .i a5 p5 n3 r.side'.line'.queue', rM t_api_Pack b3 r.side'.line'.kept', rO (tInt .u8) .i a6 p6 n4 r.side'.line'.coming', rO (tSl (tInt .u8)) .i a7 p7 n5 r.got']) := by
 refine fc_of fun E hs => ?_;unfold side_NewHost.m at H;cases hs.nR d0;refine fn_of (rs := [.tmp 2]) (N := 7) Tryz.func37 rfl rfl rfl rfl ?_;obtain ⟨hk, bk⟩ := hs.call tk0 (.c (qB d0) .n);refine st 7 [] (k_call H (fun _ m => side_made.calls m hk) ?_);rintro t0 _ h H ⟨I, _, ⟨a1, p1, n6, a2, p2, n7, b0, a8, p8, n8, b4, a9, p9, n9, rfl, rfl⟩, hk⟩;replace hs := bk hk ct6 rfl;cases hs.nR d0;cases hs.nR d1;cases hs.nO d3;cases hs.nO d5;refine st 1 [] (k_op (nB hs [.slice a1 t0.key'.length p1, .slice a2 t0.gate'.Key.length p2, iv t0.gate'.Dir, iv t0.gate'.Seen.Top, .int .u64 t0.gate'.Seen.Bits, .string t0.gate'.Peer.Addr, iv t0.gate'.Peer.Seq, pv b0, iv t0.dir', iv t0.seq', .slice none 0 0] ?_));intro b5 h hs;obtain rfl := si H;exact st 2 [] (k_retQ ⟨_, by kernel_rfl, I, _, ⟨b5, a1, p1, t0.key'.length, a2, p2, t0.gate'.Key.length, b0, a8, p8, t0.line'.queue'.length, b4, a9, p9, t0.line'.coming'.length, none, 0, 0, rfl, rfl⟩, hs.pk (.c d0 (.c d0 (.c d0 (.c d0 (.c d0 (.c d0 (.c d0 (.f imON .n))))))))⟩)
def net_New.m  : Option net_Air :=
  (some (⟨[]⟩ : net_Air))
theorem net_New.calls {B I : Gh} {h : Heap}  {r : net_Air} (H : net_New.m  = some r)  :
    Fc Tryz.prog 38 #[] [] B I h (fun v L => ∃ b0 a0 p0 n0, v = pv b0 ∧ L = [rB b0 [.slice a0 n0 p0] 161, rO t_net_flight .i a0 p0 n0 r.l']) := by
 refine fc_of fun E hs => ?_;unfold net_New.m at H;refine fn_of (rs := [.tmp 0]) (N := 3) Tryz.func38 rfl rfl rfl rfl ?_;refine st 7 [] (k_op (nB hs [.slice none 0 0] ?_));intro b1 h hs;obtain rfl := si H;exact st 2 [] (k_retQ ⟨_, by kernel_rfl, I, _, ⟨b1, none, 0, 0, rfl, rfl⟩, hs.pk (.c d0 (.f imON .n))⟩)
def bytes_Cursor_Left.m (x0 : bytes_Cursor) : Option (Int × bytes_Cursor) :=
  (some ((w64 ((x0.b'.length : Int) - x0.at')), x0))
theorem bytes_Cursor_Left.calls {B I : Gh} {h : Heap} {x0 : bytes_Cursor} {b0 : Nat} {a0 : Option Addr} {p0 : Nat} {n0 : Nat} {v0 : Value} {r : (Int × bytes_Cursor)} (H : bytes_Cursor_Left.m x0 = some r)  :
    Fc Tryz.prog 32 #[pv b0] [rB b0 [.slice a0 n0 p0, iv x0.at', v0] 146, rR (tInt .u8) .i a0 p0 n0 x0.b'] B I h (fun v L => ∃ a1 p1 n1, v = iv r.1 ∧ L = [rB b0 [.slice a1 n1 p1, iv r.2.at', v0] 146, rR (tInt .u8) .i a1 p1 n1 r.2.b']) := by
 refine fc_of fun E hs => ?_;unfold bytes_Cursor_Left.m at H;cases hs.nR d1;refine fn_of (rs := [.tmp 2]) (N := 13) Tryz.func32 rfl rfl rfl rfl ?_;refine st 5 [] ?_;obtain ⟨hs0, bk0⟩ := hs.call tk0 (.c (qL d0) .n);have hs := hs0;refine k_regD hs0 11 ?_;refine aRun [0, 1, 2] 8 hs.keep ?_;refine aL 3 rfl hs.keep (ll hs0 d0 (n := 0) rfl) (nmL hs0 d0) ?_;refine aRun [4, 5, 6, 7] 3 hs.keep ?_;refine aL 8 rfl hs.keep (ll hs0 d0 (n := 1) rfl) (nmL hs0 d0) ?_;refine aRun [9, 10] 0 hs.keep ?_;replace hs := hs.pk .n;replace hs := bk0 hs ct0 rfl;refine aEnd ?_;obtain rfl := si H;exact k_retQ ⟨_, by kernel_rfl, I, _, ⟨a0, p0, x0.b'.length, rfl, rfl⟩, hs.pk (.c d0 (.c d0 .n))⟩
def bytes_Cursor_Peek.m (x0 : bytes_Cursor) : Option (Int × Bool × bytes_Cursor) :=
  (if x0.err' = GoErr.nil then ((bytes_Cursor_Left.m x0).bind fun t0 => (if t0.1 = 0 then (some (0, false, (⟨t0.2.b', t0.2.at', x0.err'⟩ : bytes_Cursor))) else (if 0 ≤ t0.2.at' then (if t0.2.at' < (t0.2.b'.length : Int) then (some ((at_ t0.2.b' t0.2.at'), true, (⟨t0.2.b', t0.2.at', x0.err'⟩ : bytes_Cursor))) else none) else none))) else (some (0, false, x0)))
theorem bytes_Cursor_Peek.calls {B I : Gh} {h : Heap} {x0 : bytes_Cursor} {b0 : Nat} {a0 : Option Addr} {p0 : Nat} {n0 : Nat} {v0 : Value} {r : (Int × Bool × bytes_Cursor)} (H : bytes_Cursor_Peek.m x0 = some r)  :
    Fc Tryz.prog 67 #[pv b0] [rB b0 [.slice a0 n0 p0, iv x0.at', v0] 146, rR (tInt .u8) .i a0 p0 n0 x0.b', rE .i v0 x0.err'] B I h (fun v L => ∃ a2 p2 n1 v1, v = .tuple #[.int .u8 r.1, .bool r.2.1] ∧ L = [rB b0 [.slice a2 n1 p2, iv r.2.2.at', v1] 146, rR (tInt .u8) .i a2 p2 n1 r.2.2.b', rE .i v1 r.2.2.err']) := by
 refine fc_of fun E hs => ?_;unfold bytes_Cursor_Peek.m at H;cases hs.nR d1;refine fn_of (rs := [.tmp 2, .tmp 3]) (N := 24) Tryz.func67 rfl rfl rfl rfl ?_;refine st 11 [] (k_op (lB (hs.bl d0) 2 rfl ?_));rcases (hs.er d2).cases with ⟨c0, rfl⟩ | ⟨c0, t1, u0, rfl⟩;rotate_left
 ·rw [if_neg c0] at H;obtain rfl := si H;exact st 13 [true] (k_retQ ⟨_, by kernel_rfl, I, _, ⟨a0, p0, x0.b'.length, ((.iface t1 u0)), rfl, rfl⟩, hs.pk (.c d0 (.c d0 (.c d0 .n)))⟩)
 rw [if_pos c0] at H;obtain ⟨hk, bk⟩ := hs.call tk1 (.c (qK d0) .n);refine st 3 [] (k_call H (fun _ m => bytes_Cursor_Left.calls m hk) ?_);rintro t0 _ h H ⟨I, _, ⟨a1, p1, n2, rfl, rfl⟩, hk⟩;replace hs := bk hk ct2 rfl;cases hs.nR d1;refine k_ite H (fun c3 H => ?_) (fun c3 H => ?_)
 ·obtain rfl := si H;exact st 8 [true] (k_retQ ⟨_, by kernel_rfl, I, _, ⟨a1, p1, t0.2.b'.length, (.nilIface), rfl, rfl⟩, hs.pk (.c d0 (.c d0 (.c d1 .n)))⟩)
 refine st 5 [false] ?_;obtain ⟨hs0, bk0⟩ := hs.call tk0 (.c (qL d0) (.c (qK d1) .n));have hs := hs0;refine k_regD hs0 12 ?_;refine aRun [0, 1, 2] 9 hs.keep ?_;refine aL 3 rfl hs.keep (ll hs0 d0 (n := 0) rfl) (nmL hs0 d0) ?_;refine aRun [4, 5, 6] 5 hs.keep ?_;refine aL 7 rfl hs.keep (ll hs0 d0 (n := 1) rfl) (nmL hs0 d0) ?_;obtain ⟨c1, H⟩ := guard_pos H;obtain ⟨c2, H⟩ := guard_pos H;refine aP 8 (elemPtr a1 (t0.2.at'.toNat * 1)) rfl (pI (e := 5) (ik := .i64) (hs.sR d1) c1 c2) hs.keep ?_;refine aL 9 rfl hs.keep ((hs0.sR d1).cell1 c1 c2) (nmR hs0 d1 c1 c2) ?_;refine aRun [10, 11] 0 hs.keep ?_;replace hs := hs.pk .n;replace hs := bk0 hs ct0 rfl;refine aEnd ?_;obtain rfl := si H;exact k_retQ ⟨_, by kernel_rfl, I, _, ⟨a1, p1, t0.2.b'.length, (.nilIface), rfl, rfl⟩, hs.pk (.c d0 (.c d0 (.c d1 .n)))⟩
def six_Low.m (x0 : Int) : Option Int :=
  (some (w64 ((bAnd .u8 x0 63))))
theorem six_Low.calls {x0 : Int} {h : Heap} {r : Int} (H : six_Low.m x0 = some r)   :
    Ret Tryz.prog 148 #[.int .u8 x0] h (fun v h' => iv r = v ∧ h' = h) := by
 unfold six_Low.m at H;refine fn_of (rs := [.tmp 2]) (N := 6) Tryz.func148 rfl rfl rfl rfl ?_;obtain rfl := si H;exact st 11 [] (k_retQ ⟨_, by kernel_rfl, rfl, rfl⟩)
def six_digit.m (x0 : Int) : Option Int :=
  (if x0 ≥ 97 then (some (w64 ((w64 ((w64 (x0)) - 39)) - 48))) else (some (w64 ((w64 (x0)) - 48))))
theorem six_digit.calls {x0 : Int} {h : Heap} {r : Int} (H : six_digit.m x0 = some r)   :
    Ret Tryz.prog 145 #[.int .u8 x0] h (fun v h' => iv r = v ∧ h' = h) := by
 unfold six_digit.m at H;refine fn_of (rs := [.tmp 2]) (N := 14) Tryz.func145 rfl rfl rfl rfl ?_;refine st 20 [] (k_ite H (fun c0 H => ?_) (fun c0 H => ?_))
 ·obtain rfl := si H;exact st 22 [true] (k_retQ ⟨_, by kernel_rfl, rfl, rfl⟩)
 obtain rfl := si H;exact st 17 [false] (k_retQ ⟨_, by kernel_rfl, rfl, rfl⟩)
def six_at.m (x0 : Int) : Option Int :=
  (if 0 ≤ (w64 (2 * x0)) then (if (w64 (2 * x0)) < 128 then (if 0 ≤ (w64 ((w64 (2 * x0)) + 1)) then (if (w64 ((w64 (2 * x0)) + 1)) < 128 then ((six_digit.m (bt (⟨#[52, 48, 99, 49, 99, 50, 99, 51, 99, 52, 99, 53, 99, 54, 99, 55, 99, 56, 99, 57, 52, 97, 52, 98, 52, 99, 52, 100, 52, 101, 52, 102, 53, 48, 100, 49, 100, 50, 100, 51, 100, 52, 100, 53, 100, 54, 100, 55, 100, 56, 100, 57, 53, 97, 53, 98, 53, 99, 53, 100, 53, 101, 53, 102, 54, 48, 54, 49, 101, 50, 101, 51, 101, 52, 101, 53, 101, 54, 101, 55, 101, 56, 101, 57, 54, 97, 54, 98, 54, 99, 54, 100, 54, 101, 54, 102, 102, 48, 102, 49, 102, 50, 102, 51, 102, 52, 102, 53, 102, 54, 102, 55, 102, 56, 102, 57, 55, 97, 55, 98, 55, 99, 55, 100, 55, 101, 55, 102]⟩ : ByteArray) (w64 (2 * x0)))).bind fun t0 => ((six_digit.m (bt (⟨#[52, 48, 99, 49, 99, 50, 99, 51, 99, 52, 99, 53, 99, 54, 99, 55, 99, 56, 99, 57, 52, 97, 52, 98, 52, 99, 52, 100, 52, 101, 52, 102, 53, 48, 100, 49, 100, 50, 100, 51, 100, 52, 100, 53, 100, 54, 100, 55, 100, 56, 100, 57, 53, 97, 53, 98, 53, 99, 53, 100, 53, 101, 53, 102, 54, 48, 54, 49, 101, 50, 101, 51, 101, 52, 101, 53, 101, 54, 101, 55, 101, 56, 101, 57, 54, 97, 54, 98, 54, 99, 54, 100, 54, 101, 54, 102, 102, 48, 102, 49, 102, 50, 102, 51, 102, 52, 102, 53, 102, 54, 102, 55, 102, 56, 102, 57, 55, 97, 55, 98, 55, 99, 55, 100, 55, 101, 55, 102]⟩ : ByteArray) (w64 ((w64 (2 * x0)) + 1)))).bind fun t1 => (some (IntKind.u8.wrap ((bOr .i64 (shl .i64 t0 4) t1)))))) else none) else none) else none) else none)
theorem six_at.calls {x0 : Int} {h : Heap} {r : Int} (H : six_at.m x0 = some r)   :
    Ret Tryz.prog 117 #[iv x0] h (fun v h' => .int .u8 r = v ∧ h' = h) := by
 unfold six_at.m at H;refine fn_of (rs := [.tmp 2]) (N := 15) Tryz.func117 rfl rfl rfl rfl ?_;refine st 5 [] (k_regP 13 ?_);obtain ⟨c0, H⟩ := guard_pos H;obtain ⟨c1, H⟩ := guard_pos H;refine aRun [0, 1] 11 Keep.refl ?_;refine aP 2 (.int .u8 (bt (⟨#[52, 48, 99, 49, 99, 50, 99, 51, 99, 52, 99, 53, 99, 54, 99, 55, 99, 56, 99, 57, 52, 97, 52, 98, 52, 99, 52, 100, 52, 101, 52, 102, 53, 48, 100, 49, 100, 50, 100, 51, 100, 52, 100, 53, 100, 54, 100, 55, 100, 56, 100, 57, 53, 97, 53, 98, 53, 99, 53, 100, 53, 101, 53, 102, 54, 48, 54, 49, 101, 50, 101, 51, 101, 52, 101, 53, 101, 54, 101, 55, 101, 56, 101, 57, 54, 97, 54, 98, 54, 99, 54, 100, 54, 101, 54, 102, 102, 48, 102, 49, 102, 50, 102, 51, 102, 52, 102, 53, 102, 54, 102, 55, 102, 56, 102, 57, 55, 97, 55, 98, 55, 99, 55, 100, 55, 101, 55, 102]⟩ : ByteArray) (w64 (2 * x0)))) rfl (pr_indexStr (s := (⟨#[52, 48, 99, 49, 99, 50, 99, 51, 99, 52, 99, 53, 99, 54, 99, 55, 99, 56, 99, 57, 52, 97, 52, 98, 52, 99, 52, 100, 52, 101, 52, 102, 53, 48, 100, 49, 100, 50, 100, 51, 100, 52, 100, 53, 100, 54, 100, 55, 100, 56, 100, 57, 53, 97, 53, 98, 53, 99, 53, 100, 53, 101, 53, 102, 54, 48, 54, 49, 101, 50, 101, 51, 101, 52, 101, 53, 101, 54, 101, 55, 101, 56, 101, 57, 54, 97, 54, 98, 54, 99, 54, 100, 54, 101, 54, 102, 102, 48, 102, 49, 102, 50, 102, 51, 102, 52, 102, 53, 102, 54, 102, 55, 102, 56, 102, 57, 55, 97, 55, 98, 55, 99, 55, 100, 55, 101, 55, 102]⟩ : ByteArray)) (k := .i64) (i := (w64 (2 * x0))) (by kernel_rfl) (by kernel_rfl) (by kernel_rfl) c0 c1) Keep.refl ?_;obtain ⟨c2, H⟩ := guard_pos H;obtain ⟨c3, H⟩ := guard_pos H;refine aRun [5, 6, 7] 7 Keep.refl ?_;refine aP 8 (.int .u8 (bt (⟨#[52, 48, 99, 49, 99, 50, 99, 51, 99, 52, 99, 53, 99, 54, 99, 55, 99, 56, 99, 57, 52, 97, 52, 98, 52, 99, 52, 100, 52, 101, 52, 102, 53, 48, 100, 49, 100, 50, 100, 51, 100, 52, 100, 53, 100, 54, 100, 55, 100, 56, 100, 57, 53, 97, 53, 98, 53, 99, 53, 100, 53, 101, 53, 102, 54, 48, 54, 49, 101, 50, 101, 51, 101, 52, 101, 53, 101, 54, 101, 55, 101, 56, 101, 57, 54, 97, 54, 98, 54, 99, 54, 100, 54, 101, 54, 102, 102, 48, 102, 49, 102, 50, 102, 51, 102, 52, 102, 53, 102, 54, 102, 55, 102, 56, 102, 57, 55, 97, 55, 98, 55, 99, 55, 100, 55, 101, 55, 102]⟩ : ByteArray) (w64 ((w64 (2 * x0)) + 1)))) rfl (pr_indexStr (s := (⟨#[52, 48, 99, 49, 99, 50, 99, 51, 99, 52, 99, 53, 99, 54, 99, 55, 99, 56, 99, 57, 52, 97, 52, 98, 52, 99, 52, 100, 52, 101, 52, 102, 53, 48, 100, 49, 100, 50, 100, 51, 100, 52, 100, 53, 100, 54, 100, 55, 100, 56, 100, 57, 53, 97, 53, 98, 53, 99, 53, 100, 53, 101, 53, 102, 54, 48, 54, 49, 101, 50, 101, 51, 101, 52, 101, 53, 101, 54, 101, 55, 101, 56, 101, 57, 54, 97, 54, 98, 54, 99, 54, 100, 54, 101, 54, 102, 102, 48, 102, 49, 102, 50, 102, 51, 102, 52, 102, 53, 102, 54, 102, 55, 102, 56, 102, 57, 55, 97, 55, 98, 55, 99, 55, 100, 55, 101, 55, 102]⟩ : ByteArray)) (k := .i64) (i := (w64 ((w64 (2 * x0)) + 1))) (by kernel_rfl) (by kernel_rfl) (by kernel_rfl) c2 c3) Keep.refl ?_;refine aO1 3 rfl (o_call H (fun _ m => six_digit.calls m) ?_);rintro t0 _ _ H ⟨rfl, rfl⟩;refine ⟨Keep.refl, ?_⟩;refine aRun [4] 4 Keep.refl ?_;refine aO1 9 rfl (o_call H (fun _ m => six_digit.calls m) ?_);rintro t1 _ _ H ⟨rfl, rfl⟩;refine ⟨Keep.refl, ?_⟩;refine aRun [10, 11, 12] 0 Keep.refl ?_;refine aEnd ?_;obtain rfl := si H;exact k_retQ ⟨_, by kernel_rfl, rfl, rfl⟩
def six_Get.m (x0 : Int) : Option (Int × GoErr) :=
  ((six_Low.m x0).bind fun t0 => ((six_at.m t0).bind fun t1 => (if t1 = x0 then (some (t0, GoErr.nil)) else (some (0, (GoErr.no 3))))))
theorem six_Get.calls {B I : Gh} {h : Heap} {x0 : Int} {r : (Int × GoErr)} (H : six_Get.m x0 = some r)  :
    Fc Tryz.prog 128 #[.int .u8 x0] [] B I h (fun v L => ∃ v0, v = .tuple #[iv r.1, v0] ∧ L = [rE .i v0 r.2]) := by
 refine fc_of fun E hs => ?_;unfold six_Get.m at H;refine fn_of (rs := [.tmp 2, .tmp 3]) (N := 13) Tryz.func128 rfl rfl rfl rfl ?_;refine st 9 [] (k_call H (fun _ m => six_Low.calls m) ?_);rintro t0 _ _ H ⟨rfl, rfl⟩;refine st 5 [] (k_call H (fun _ m => six_at.calls m) ?_);rintro t1 _ _ H ⟨rfl, rfl⟩;refine st 1 [] (k_ite H (fun c0 H => ?_) (fun c0 H => ?_))
 ·obtain rfl := si H;exact st 8 [true] (k_retQ ⟨_, by kernel_rfl, I, _, ⟨(.nilIface), rfl, rfl⟩, hs.pk (.f imEN .n)⟩)
 obtain rfl := si H;exact st 9 [false] (k_retQ ⟨_, by kernel_rfl, I, _, ⟨(.iface 75 (iv 3)), rfl, rfl⟩, hs.pk (.f imEC .n)⟩)
def addr_sized.m (x0 : Int) : Option Bool :=
  (if x0 ≥ 1 then (some (decide (x0 ≤ 16383))) else (some false))
theorem addr_sized.calls {x0 : Int} {h : Heap} {r : Bool} (H : addr_sized.m x0 = some r)   :
    Ret Tryz.prog 97 #[iv x0] h (fun v h' => .bool r = v ∧ h' = h) := by
 unfold addr_sized.m at H;refine fn_of (rs := [.tmp 2]) (N := 9) Tryz.func97 rfl rfl rfl rfl ?_;refine st 7 [] (k_ite H (fun c0 H => ?_) (fun c0 H => ?_))
 ·obtain rfl := si H;exact st 6 [] (k_retQ ⟨_, by kernel_rfl, rfl, rfl⟩)
 obtain rfl := si H;exact st 6 [] (k_retQ ⟨_, by kernel_rfl, rfl, rfl⟩)
def addr_Long.m (x0 : Int) : Option Bool :=
  (some (decide (x0 > 4096)))
theorem addr_Long.calls {x0 : Int} {h : Heap} {r : Bool} (H : addr_Long.m x0 = some r)   :
    Ret Tryz.prog 98 #[iv x0] h (fun v h' => .bool r = v ∧ h' = h) := by
 unfold addr_Long.m at H;refine fn_of (rs := [.tmp 2]) (N := 5) Tryz.func98 rfl rfl rfl rfl ?_;obtain rfl := si H;exact st 10 [] (k_retQ ⟨_, by kernel_rfl, rfl, rfl⟩)
def addr_spot.m (x0 : Int) (x1 : GoErr) : Option GoErr :=
  (some (GoErr.spot x0 x1))
theorem addr_spot.calls {B I : Gh} {h : Heap} {x0 : Int} {x1 : GoErr} {v0 : Value} {r : GoErr} (H : addr_spot.m x0 x1 = some r)  :
    Fc Tryz.prog 100 #[iv x0, v0] [rE .i v0 x1] B I h (fun v L => ∃ v1, v = v1 ∧ L = [rE .i v1 r]) := by
 refine fc_of fun E hs => ?_;unfold addr_spot.m at H;refine fn_of (rs := [.tmp 4]) (N := 10) Tryz.func100 rfl rfl rfl rfl ?_;rcases (hs.er d0).cases with ⟨c0, rfl⟩ | ⟨c0, t0, u0, rfl⟩
 ·refine st 9 [] (k_op (nB hs [iv x0, .nilIface] ?_));intro b0 h hs;have q0 := (hs.er d1);obtain ⟨I, hs⟩ := hs.fS q0;obtain rfl := si H;exact st 3 [] (k_retQ ⟨_, by kernel_rfl, I, _, ⟨((.iface 141 (pv b0))), rfl, rfl⟩, hs.pk (.c d0 .n)⟩)
 refine st 9 [] (k_op (nB hs [iv x0, (.iface t0 u0)] ?_));intro b0 h hs;have q0 := (hs.er d1);obtain ⟨I, hs⟩ := hs.fS q0;obtain rfl := si H;exact st 3 [] (k_retQ ⟨_, by kernel_rfl, I, _, ⟨((.iface 141 (pv b0))), rfl, rfl⟩, hs.pk (.c d0 .n)⟩)
def addr_short.l1.m (K : Nat) (x1 : (List Int)) : Nat → Int → Int → Option ((Int × GoErr) ⊕ (Int))
  | 0, _, _ => none
  | k + 1, x2, x0 => (letJ (α := Bool → Option ((Int × GoErr) ⊕ (Int))) (fun x3 => (bif x3 then (if 0 ≤ x0 then (if x0 < (x1.length : Int) then ((six_Get.m (at_ x1 x0)).bind fun t0 => (if t0.2 = GoErr.nil then (addr_short.l1.m K x1 k (bOr .i64 (shl .i64 x2 6) t0.1) (w64 (x0 + 1))) else ((addr_spot.m x0 t0.2).bind fun t1 => (some (Sum.inl (0, t1)))))) else none) else none) else (some (Sum.inr x2)))) fun j0 => (if x0 < 2 then (j0 true) else (j0 false)))
def addr_short.m (K : Nat) (x0 : (List Int)) : Option (Int × GoErr) :=
  ((addr_short.l1.m K x0 K 0 0).bind fun s0 => match s0 with | .inl q => (some q) | .inr x1 => (some (x1, GoErr.nil)))
theorem addr_short.calls {B I : Gh} {h : Heap} {K : Nat} {x0 : (List Int)} {a0 : Option Addr} {p0 : Nat} {n0 : Nat} {r : (Int × GoErr)} (H : addr_short.m K x0 = some r)  :
    Fc Tryz.prog 99 #[.slice a0 n0 p0] [rR (tInt .u8) .b a0 p0 n0 x0] B I h (fun v L => ∃ v0, v = .tuple #[iv r.1, v0] ∧ L = [rE .i v0 r.2]) := by
 refine fc_of fun E hs => ?_;unfold addr_short.m at H;cases hs.nR d0;refine fn_of (rs := [.tmp 2, .tmp 3]) (N := 30) Tryz.func99 rfl rfl rfl rfl ?_;refine st 15 [] ?_;obtain ⟨s0, m0, HR0⟩ := bind_some H;refine k_loop 0 (fun k' ρ h => ∃ (x1 : Int) (x2 : Int), ∃ I, addr_short.l1.m K x0 k' x1 x2 = some s0 ∧ Fits [(0, .slice a0 x0.length p0), (4, iv x1), (8, iv x2)] ρ ∧ St E [rR (tInt .u8) .b a0 p0 x0.length x0] I h) (fun ρ h => ∃ (x4 : Int), ∃ I, Sum.inr x4 = s0 ∧ Fits [(4, iv x4)] ρ ∧ St E [rR (tInt .u8) .b a0 p0 x0.length x0] I h) K ⟨0, 0, I, m0, ft, hs.pk (.c d0 .n)⟩ ?_ rfl ?_;rotate_left
 ·rintro ρ h ⟨x4, I, rfl, hf, hs⟩;have H := HR0;try dsimp only at H
  refine k_fits _ hf ?_ rfl;obtain rfl := si H;exact st 6 [] (k_retQ ⟨_, by kernel_rfl, I, _, ⟨(.nilIface), rfl, rfl⟩, hs.pk (.f imEN .n)⟩)
 clear m0 H;rintro k' ρ h ⟨x1, x2, I, H, hf, hs⟩;cases k' with
 | zero => cases H
 | succ k =>
  rw [addr_short.l1.m] at H;refine k_fits _ hf ?_ rfl;refine st 1 [] ?_;obtain ⟨j0, e0, H⟩ := letJ_some H;refine k_join (fun ρ h => ∃ (x3 : Bool), ∃ I, j0 x3 = some s0 ∧ Fits [(0, .slice a0 x0.length p0), (4, iv x1), (8, iv x2), (9, .bool x3)] ρ ∧ St E [rR (tInt .u8) .b a0 p0 x0.length x0] I h) ?_ ?_
  ·refine st 1 [] (k_ite H (fun c3 H => ?_) (fun c3 H => ?_))
   ·exact st 1 [] (k_end ⟨true, I, H, ft, hs.pk (.c d0 .n)⟩)
   exact st 1 [] (k_end ⟨false, I, H, ft, hs.pk (.c d0 .n)⟩)
  clear H;rintro ρ h ⟨x3, I, H, hf, hs⟩;refine k_fits _ hf ?_ rfl;subst e0;try dsimp only at H
  cases x3
  ·rw [cond_false] at H;refine st 2 [false] (k_out rfl ?_);obtain rfl := si H;exact xE ⟨x1, I, rfl, ft, hs.pk (.c d0 .n)⟩
  rw [cond_true] at H;obtain ⟨c1, H⟩ := guard_pos H;obtain ⟨c2, H⟩ := guard_pos H;refine st 14 [true] (k_val (elemPtr a0 (x2.toNat * 1)) (pI (e := 5) (ik := .i64) (hs.sR d0) c1 c2) ?_);refine k_op (lC ((hs.sR d0).cell1 c1 c2) ?_);obtain ⟨hk, bk⟩ := hs.call tk0 .n;refine k_call H (fun _ m => six_Get.calls m hk) ?_;rintro t0 _ h H ⟨I, _, ⟨v2, rfl, rfl⟩, hk⟩;replace hs := bk hk ct1 rfl;rcases (hs.er d0).cases with ⟨c0, rfl⟩ | ⟨c0, t1, u0, rfl⟩
  ·rw [if_pos c0] at H;exact st 26 [false] (k_endL ⟨k, Nat.lt_succ_self _, (bOr .i64 (shl .i64 x1 6) t0.1), (w64 (x2 + 1)), I, H, ft, hs.pk (.c d1 .n)⟩)
  rw [if_neg c0] at H;obtain ⟨hk, bk⟩ := hs.call tk0 (.c (xK d0) .n);refine st 17 [true] (k_call H (fun _ m => addr_spot.calls m hk) ?_);rintro t2 v1 h H ⟨I, _, ⟨_, rfl, rfl⟩, hk⟩;replace hs := bk hk ct1 rfl;refine st 3 [] (k_retQ (krL ?_));obtain rfl := si H;obtain rfl := Option.some.inj HR0;exact ⟨_, by kernel_rfl, I, _, ⟨(v1), rfl, rfl⟩, hs.pk (.c d0 .n)⟩
def addr_Get.m (K : Nat) (x0 : (List Int)) (x1 : Int) : Option (Int × GoErr) :=
  ((addr_sized.m x1).bind fun t1 => bif t1 then (if (x0.length : Int) < 2 then (some (0, (GoErr.no 2))) else (if 0 < (x0.length : Int) then (if 1 < (x0.length : Int) then (letJ (α := Bool → Option (Int × GoErr)) (fun x2 => (bif x2 then ((addr_short.m K x0).bind fun t0 => (if t0.2 = GoErr.nil then (if t0.1 ≥ x1 then (some (0, (GoErr.no 4))) else (some (t0.1, GoErr.nil))) else (some (0, t0.2)))) else (if (at_ x0 0) > 63 then ((addr_spot.m 0 (GoErr.no 3)).bind fun t3 => (some (0, t3))) else (if (bOr .i64 (shl .i64 (w64 ((at_ x0 0))) 8) (w64 ((at_ x0 1)))) ≥ x1 then (some (0, (GoErr.no 4))) else (some ((bOr .i64 (shl .i64 (w64 ((at_ x0 0))) 8) (w64 ((at_ x0 1)))), GoErr.nil)))))) fun j0 => ((addr_Long.m x1).bind fun t2 => bif t2 then (j0 false) else (j0 true))) else none) else none)) else (some (0, (GoErr.no 1))))
theorem addr_Get.calls {B I : Gh} {h : Heap} {K : Nat} {x0 : (List Int)} {x2 : Int} {a0 : Option Addr} {p0 : Nat} {n0 : Nat} {r : (Int × GoErr)} (H : addr_Get.m K x0 x2 = some r)  :
    Fc Tryz.prog 65 #[.slice a0 n0 p0, iv x2] [rR (tInt .u8) .b a0 p0 n0 x0] B I h (fun v L => ∃ v0, v = .tuple #[iv r.1, v0] ∧ L = [rE .i v0 r.2]) := by
 refine fc_of fun E hs => ?_;unfold addr_Get.m at H;cases hs.nR d0;refine fn_of (rs := [.tmp 4, .tmp 5]) (N := 52) Tryz.func65 rfl rfl rfl rfl ?_;refine st 9 [] (k_call H (fun _ m => addr_sized.calls m) ?_);rintro t0 _ _ H ⟨rfl, rfl⟩;cases t0
 ·rw [cond_false] at H;obtain rfl := si H;exact st 9 [true] (k_retQ ⟨_, by kernel_rfl, I, _, ⟨(.iface 75 (iv 1)), rfl, rfl⟩, hs.pk (.f imEC .n)⟩)
 rw [cond_true] at H;refine st 9 [false] (k_ite H (fun c3 H => ?_) (fun c3 H => ?_))
 ·obtain rfl := si H;exact st 8 [true] (k_retQ ⟨_, by kernel_rfl, I, _, ⟨(.iface 75 (iv 2)), rfl, rfl⟩, hs.pk (.f imEC .n)⟩)
 refine st 4 [false] ?_;obtain ⟨hs0, bk0⟩ := hs.call tk0 (.c (qB d0) .n);have hs := hs0;refine k_regD hs0 11 ?_;obtain ⟨c0, H⟩ := guard_pos H;refine aRun [0] 10 hs.keep ?_;refine aP 1 (elemPtr a0 ((0 : Int).toNat * 1)) rfl (pI (e := 5) (ik := .i64) (hs.sR d0) (by decide) c0) hs.keep ?_;refine aL 2 rfl hs.keep ((hs0.sR d0).cell1 (by decide) c0) (nmR hs0 d0 (by decide) c0) ?_;obtain ⟨c1, H⟩ := guard_pos H;refine aRun [3, 4, 5] 5 hs.keep ?_;refine aP 6 (elemPtr a0 ((1 : Int).toNat * 1)) rfl (pI (e := 5) (ik := .i64) (hs.sR d0) (by decide) c1) hs.keep ?_;refine aL 7 rfl hs.keep ((hs0.sR d0).cell1 (by decide) c1) (nmR hs0 d0 (by decide) c1) ?_;refine aRun [8, 9, 10] 0 hs.keep ?_;replace hs := hs.pk .n;replace hs := bk0 hs ct0 rfl;refine aEnd ?_;refine st 3 [] ?_;obtain ⟨j0, e0, H⟩ := letJ_some H;refine k_join (fun ρ h => ∃ (x1 : Bool), ∃ I, j0 x1 = some r ∧ Fits [(0, .slice a0 x0.length p0), (1, iv x2), (6, iv (bOr .i64 (shl .i64 (w64 ((at_ x0 0))) 8) (w64 ((at_ x0 1))))), (27, .bool x1)] ρ ∧ St E [rR (tInt .u8) .b a0 p0 x0.length x0] I h) ?_ ?_
 ·refine st 2 [] (k_call H (fun _ m => addr_Long.calls m) ?_);rintro t1 _ _ H ⟨rfl, rfl⟩;cases t1
  ·rw [cond_false] at H;exact st 3 [] (k_end ⟨true, I, H, ft, hs.pk (.c d0 .n)⟩)
  rw [cond_true] at H;exact st 3 [] (k_end ⟨false, I, H, ft, hs.pk (.c d0 .n)⟩)
 clear H;rintro ρ h ⟨x1, I, H, hf, hs⟩;refine k_fits _ hf ?_ rfl;subst e0;try dsimp only at H
 cases x1
 ·rw [cond_false] at H;refine st 4 [false] (k_val (elemPtr a0 ((0 : Int).toNat * 1)) (pI (e := 5) (ik := .i64) (hs.sR d0) (by decide) c0) ?_);refine k_op (lC ((hs.sR d0).cell1 (by decide) c0) ?_);refine k_ite H (fun c5 H => ?_) (fun c5 H => ?_)
  ·obtain ⟨hk, bk⟩ := hs.call tk0 (.c xC .n);refine st 6 [true] (k_call H (fun _ m => addr_spot.calls m hk) ?_);rintro t4 v1 h H ⟨I, _, ⟨_, rfl, rfl⟩, hk⟩;replace hs := bk hk ct1 rfl;obtain rfl := si H;exact st 3 [] (k_retQ ⟨_, by kernel_rfl, I, _, ⟨(v1), rfl, rfl⟩, hs.pk (.c d0 .n)⟩)
  refine st 10 [false] (k_ite H (fun c6 H => ?_) (fun c6 H => ?_))
  ·obtain rfl := si H;exact st 8 [true] (k_retQ ⟨_, by kernel_rfl, I, _, ⟨(.iface 75 (iv 4)), rfl, rfl⟩, hs.pk (.f imEC .n)⟩)
  obtain rfl := si H;exact st 9 [false] (k_retQ ⟨_, by kernel_rfl, I, _, ⟨(.nilIface), rfl, rfl⟩, hs.pk (.f imEN .n)⟩)
 rw [cond_true] at H;obtain ⟨hk, bk⟩ := hs.call tk0 (.c (qB d0) .n);refine st 4 [true] (k_call H (fun _ m => addr_short.calls m hk) ?_);rintro t3 _ h H ⟨I, _, ⟨v2, rfl, rfl⟩, hk⟩;replace hs := bk hk ct1 rfl;rcases (hs.er d0).cases with ⟨c2, rfl⟩ | ⟨c2, t2, u0, rfl⟩;rotate_left
 ·rw [if_neg c2] at H;obtain rfl := si H;exact st 19 [true] (k_retQ ⟨_, by kernel_rfl, I, _, ⟨((.iface t2 u0)), rfl, rfl⟩, hs.pk (.c d0 .n)⟩)
 rw [if_pos c2] at H;refine st 24 [false] (k_ite H (fun c4 H => ?_) (fun c4 H => ?_))
 ·obtain rfl := si H;exact st 8 [true] (k_retQ ⟨_, by kernel_rfl, I, _, ⟨(.iface 75 (iv 4)), rfl, rfl⟩, hs.pk (.f imEC .n)⟩)
 obtain rfl := si H;exact st 9 [false] (k_retQ ⟨_, by kernel_rfl, I, _, ⟨(.nilIface), rfl, rfl⟩, hs.pk (.f imEN .n)⟩)
def bytes_Cursor_Fail.m (x0 : bytes_Cursor) (x1 : GoErr) : Option bytes_Cursor :=
  (letJ (α := Bool → Option bytes_Cursor) (fun x2 => (bif x2 then (some (⟨x0.b', x0.at', (GoErr.spot x0.at' x1)⟩ : bytes_Cursor)) else (some x0))) fun j0 => (if x0.err' = GoErr.nil then (if x1 = GoErr.nil then (j0 false) else (j0 true)) else (j0 false)))
theorem bytes_Cursor_Fail.calls {B I : Gh} {h : Heap} {x0 : bytes_Cursor} {x2 : GoErr} {b0 : Nat} {v1 : Value} {v4 : Value} {v2 : Value} {r : bytes_Cursor} (H : bytes_Cursor_Fail.m x0 x2 = some r)  :
    Fc Tryz.prog 66 #[pv b0, v2] [rB b0 [v1, iv x0.at', v4] 146, rE .i v4 x0.err', rE .i v2 x2] B I h (fun v L => ∃ v5, v = .tuple #[] ∧ L = [rB b0 [v1, iv r.at', v5] 146, rE .i v5 r.err']) := by
 refine fc_of fun E hs => ?_;unfold bytes_Cursor_Fail.m at H;refine fn_of (rs := []) (N := 24) Tryz.func66 rfl rfl rfl rfl ?_;refine st 1 [] ?_;obtain ⟨j0, e0, H⟩ := letJ_some H;refine k_join (fun ρ h => ∃ (x1 : Bool), ∃ v3 v0 I, j0 x1 = some r ∧ Fits [(0, pv b0), (1, v3), (12, .bool x1)] ρ ∧ St E [rE .i v3 x2, rE .i v0 x0.err', rB b0 [v1, iv x0.at', v0] 146] I h) ?_ ?_
 ·refine st 4 [] (k_op (lB (hs.bl d0) 2 rfl ?_));rcases (hs.er d1).cases with ⟨c0, rfl⟩ | ⟨c0, t0, u0, rfl⟩;rotate_left
  ·rw [if_neg c0] at H;exact st 6 [] (k_end ⟨false, v2, (.iface t0 u0), I, H, ft, hs.pk (.c d2 (.c d1 (.c d0 .n)))⟩)
  rw [if_pos c0] at H;rcases (hs.er d2).cases with ⟨c1, rfl⟩ | ⟨c1, t1, u1, rfl⟩
  ·rw [if_pos c1] at H;exact st 6 [] (k_end ⟨false, .nilIface, .nilIface, I, H, ft, hs.pk (.c d2 (.c d1 (.c d0 .n)))⟩)
  rw [if_neg c1] at H;exact st 6 [] (k_end ⟨true, (.iface t1 u1), .nilIface, I, H, ft, hs.pk (.c d2 (.c d1 (.c d0 .n)))⟩)
 clear H;rintro ρ h ⟨x1, v3, v0, I, H, hf, hs⟩;refine k_fits _ hf ?_ rfl;subst e0;try dsimp only at H
 cases x1
 ·rw [cond_false] at H;refine st 2 [false] (k_fin ?_);obtain rfl := si H;exact ⟨_, by kernel_rfl, I, _, ⟨(v0), rfl, rfl⟩, hs.pk (.c d2 (.c d1 .n))⟩
 rw [cond_true] at H;refine st 6 [true] (k_op (lB (hs.bl d2) 1 rfl ?_));rcases (hs.er d0).cases with ⟨c2, rfl⟩ | ⟨c2, t2, u2, rfl⟩
 ·refine st 2 [] (k_op (nB hs [iv x0.at', .nilIface] ?_));intro b1 h hs;have q0 := (hs.er d1);obtain ⟨I, hs⟩ := hs.fS q0;refine st 3 [] (k_op (sB (v := (.iface 141 (pv b1))) (hs.f d3) cw2 ?_));intro h hs;refine st 1 [] (k_fin ?_);obtain rfl := si H;exact ⟨_, by kernel_rfl, I, _, ⟨((.iface 141 (pv b1))), rfl, rfl⟩, hs.pk (.c d0 (.c d0 .n))⟩
 refine st 2 [] (k_op (nB hs [iv x0.at', (.iface t2 u2)] ?_));intro b1 h hs;have q0 := (hs.er d1);obtain ⟨I, hs⟩ := hs.fS q0;refine st 3 [] (k_op (sB (v := (.iface 141 (pv b1))) (hs.f d3) cw2 ?_));intro h hs;refine st 1 [] (k_fin ?_);obtain rfl := si H;exact ⟨_, by kernel_rfl, I, _, ⟨((.iface 141 (pv b1))), rfl, rfl⟩, hs.pk (.c d0 (.c d0 .n))⟩
def bytes_Cursor_Addr.m (K : Nat) (x0 : bytes_Cursor) (x1 : Int) : Option (Int × bytes_Cursor) :=
  (if x0.err' = GoErr.nil then (if 0 ≤ x0.at' then (if x0.at' ≤ (x0.b'.length : Int) then ((addr_Get.m K (sub x0.b' x0.at' (x0.b'.length : Int)) x1).bind fun t0 => ((bytes_Cursor_Fail.m x0 t0.2).bind fun t1 => (if t0.2 = GoErr.nil then (some (t0.1, (⟨x0.b', (w64 (t1.at' + 2)), t1.err'⟩ : bytes_Cursor))) else (some (t0.1, (⟨x0.b', t1.at', t1.err'⟩ : bytes_Cursor)))))) else none) else none) else (some (0, x0)))
theorem bytes_Cursor_Addr.calls {B I : Gh} {h : Heap} {K : Nat} {x0 : bytes_Cursor} {x1 : Int} {b0 : Nat} {a0 : Option Addr} {p0 : Nat} {n0 : Nat} {v0 : Value} {r : (Int × bytes_Cursor)} (H : bytes_Cursor_Addr.m K x0 x1 = some r)  :
    Fc Tryz.prog 33 #[pv b0, iv x1] [rB b0 [.slice a0 n0 p0, iv x0.at', v0] 146, rR (tInt .u8) .i a0 p0 n0 x0.b', rE .i v0 x0.err'] B I h (fun v L => ∃ a1 p1 n1 v2, v = iv r.1 ∧ L = [rB b0 [.slice a1 n1 p1, iv r.2.at', v2] 146, rR (tInt .u8) .i a1 p1 n1 r.2.b', rE .i v2 r.2.err']) := by
 refine fc_of fun E hs => ?_;unfold bytes_Cursor_Addr.m at H;cases hs.nR d1;refine fn_of (rs := [.tmp 4]) (N := 39) Tryz.func33 rfl rfl rfl rfl ?_;refine st 10 [] (k_op (lB (hs.bl d0) 2 rfl ?_));rcases (hs.er d2).cases with ⟨c0, rfl⟩ | ⟨c0, t0, u0, rfl⟩;rotate_left
 ·rw [if_neg c0] at H;obtain rfl := si H;exact st 7 [true] (k_retQ ⟨_, by kernel_rfl, I, _, ⟨a0, p0, x0.b'.length, ((.iface t0 u0)), rfl, rfl⟩, hs.pk (.c d0 (.c d0 (.c d0 .n)))⟩)
 rw [if_pos c0] at H;refine st 5 [false] ?_;obtain ⟨hs0, bk0⟩ := hs.call tk0 (.c (qL d0) (.c (qK d1) .n));have hs := hs0;refine k_regD hs0 16 ?_;refine aRun [0, 1, 2] 13 hs.keep ?_;refine aL 3 rfl hs.keep (ll hs0 d0 (n := 0) rfl) (nmL hs0 d0) ?_;refine aRun [4, 5, 6] 9 hs.keep ?_;refine aL 7 rfl hs.keep (ll hs0 d0 (n := 1) rfl) (nmL hs0 d0) ?_;obtain ⟨c2, H⟩ := guard_pos H;obtain ⟨c3, H⟩ := guard_pos H;refine aP 8 (.slice (slA a0 p0 (Int.toNat x0.at') 1) ((sub x0.b' x0.at' (x0.b'.length : Int)).length) (p0 - Int.toNat x0.at')) rfl (pSl (e := 5) (k1 := .i64) (hs.sR d1) c2 c3 (Int.le_refl _)) hs.keep ?_;refine aRun [9] 6 hs.keep ?_;obtain ⟨hk, bk⟩ := hs.call tk0 (.c (qP (qI d1) (lo := x0.at') (hi := (x0.b'.length : Int)) c2 c3 (Int.le_refl _)) .n);refine aO1 10 rfl (o_call H (fun _ m => addr_Get.calls m hk) ?_);rintro t2 _ h H ⟨I, _, ⟨v3, rfl, rfl⟩, hk⟩;replace hs := bk hk ct1 rfl;refine ⟨hs.keep, ?_⟩;refine aRun [11, 12, 13, 14, 15] 0 hs.keep ?_;replace hs := hs.pk (.c d0 .n);replace hs := bk0 hs ct1 rfl;refine aEnd ?_;obtain ⟨hk, bk⟩ := (hs.f d1).call tk1 (.c (xK d2) (.c (xK d0) .n));refine st 4 [] (k_call H (fun _ m => bytes_Cursor_Fail.calls m hk) ?_);rintro t1 _ h H ⟨I, _, ⟨v1, rfl, rfl⟩, hk⟩;replace hs := bk hk ct2 rfl;rcases (hs.er d2).cases with ⟨c1, rfl⟩ | ⟨c1, t3, u1, rfl⟩
 ·rw [if_pos c1] at H;refine st 12 [true] (k_op (lB (hs.bl d0) 1 rfl ?_));refine st 3 [] (k_op (sB (v := iv (w64 (t1.at' + 2))) hs cw1 ?_));intro h hs;obtain rfl := si H;exact st 6 [] (k_retQ ⟨_, by kernel_rfl, I, _, ⟨a0, p0, x0.b'.length, (v1), rfl, rfl⟩, hs.pk (.c d0 (.c d2 (.c d0 .n)))⟩)
 rw [if_neg c1] at H;obtain rfl := si H;exact st 14 [false] (k_retQ ⟨_, by kernel_rfl, I, _, ⟨a0, p0, x0.b'.length, (v1), rfl, rfl⟩, hs.pk (.c d0 (.c d2 (.c d0 .n)))⟩)
def bytes_Cursor_Take.m (x2 : bytes_Cursor) (x0 : Int) : Option ((List Int) × bytes_Cursor) :=
  (letJ (α := (List Int) → Int → GoErr → Option ((List Int) × bytes_Cursor)) (fun x3 x1 x4 => (if x4 = GoErr.nil then (if 0 ≤ (w64 ((w64 (x1 + x0)) - x0)) then (if (w64 ((w64 (x1 + x0)) - x0)) ≤ (w64 (x1 + x0)) then (if (w64 (x1 + x0)) ≤ (x3.length : Int) then ((slices_Clone_bytes.m (sub x3 (w64 ((w64 (x1 + x0)) - x0)) (w64 (x1 + x0)))).bind fun t3 => (some (t3, (⟨x3, (w64 (x1 + x0)), x4⟩ : bytes_Cursor)))) else none) else none) else none) else (some ([], (⟨x3, x1, x4⟩ : bytes_Cursor))))) fun j0 => (if x0 < 0 then ((bytes_Cursor_Fail.m x2 (GoErr.no 2)).bind fun t1 => (j0 x2.b' t1.at' t1.err')) else ((bytes_Cursor_Left.m x2).bind fun t0 => (if x0 > t0.1 then ((bytes_Cursor_Fail.m (⟨t0.2.b', t0.2.at', x2.err'⟩ : bytes_Cursor) (GoErr.no 2)).bind fun t2 => (j0 t0.2.b' t2.at' t2.err')) else (j0 t0.2.b' t0.2.at' x2.err')))))
theorem bytes_Cursor_Take.calls {B I : Gh} {h : Heap} {x2 : bytes_Cursor} {x0 : Int} {b0 : Nat} {a1 : Option Addr} {p1 : Nat} {n1 : Nat} {v0 : Value} {r : ((List Int) × bytes_Cursor)} (H : bytes_Cursor_Take.m x2 x0 = some r)  :
    Fc Tryz.prog 64 #[pv b0, iv x0] [rB b0 [.slice a1 n1 p1, iv x2.at', v0] 146, rR (tInt .u8) .i a1 p1 n1 x2.b', rE .i v0 x2.err'] B I h (fun v L => ∃ a3 p3 n2 a4 p4 n3 v2, v = .slice a3 n2 p3 ∧ L = [rO (tInt .u8) .i a3 p3 n2 r.1, rB b0 [.slice a4 n3 p4, iv r.2.at', v2] 146, rR (tInt .u8) .i a4 p4 n3 r.2.b', rE .i v2 r.2.err']) := by
 refine fc_of fun E hs => ?_;unfold bytes_Cursor_Take.m at H;cases hs.nR d1;refine fn_of (rs := [.tmp 4]) (N := 45) Tryz.func64 rfl rfl rfl rfl ?_;refine st 5 [] ?_;obtain ⟨j0, e0, H⟩ := letJ_some H;refine k_join (fun ρ h => ∃ (x3 : List Int) (x1 : Int) (x4 : GoErr), ∃ a0 p0 n0 v1 I, j0 x3 x1 x4 = some r ∧ Fits [(0, pv b0), (1, iv x0)] ρ ∧ St E [rR (tInt .u8) .i a0 p0 n0 x3, rE .i v1 x4, rB b0 [.slice a0 n0 p0, iv x1, v1] 146] I h) ?_ ?_
 ·refine st 3 [] (k_ite H (fun c4 H => ?_) (fun c4 H => ?_))
  ·obtain ⟨hk, bk⟩ := hs.call tk1 (.c (xK d1) (.c xC .n));refine st 11 [true] (k_call H (fun _ m => bytes_Cursor_Fail.calls m hk) ?_);rintro t1 _ h H ⟨I, _, ⟨v3, rfl, rfl⟩, hk⟩;replace hs := bk hk ct2 rfl;exact st 1 [] (k_end ⟨x2.b', t1.at', t1.err', a1, p1, x2.b'.length, v3, I, H, ft, hs.pk (.c d2 (.c d1 (.c d0 .n)))⟩)
  obtain ⟨hk, bk⟩ := hs.call tk1 (.c (qK d0) .n);refine st 3 [] (k_call H (fun _ m => bytes_Cursor_Left.calls m hk) ?_);rintro t0 _ h H ⟨I, _, ⟨a2, p2, n4, rfl, rfl⟩, hk⟩;replace hs := bk hk ct2 rfl;cases hs.nR d1;refine k_ite H (fun c5 H => ?_) (fun c5 H => ?_);rotate_left
  ·exact st 4 [false] (k_end ⟨t0.2.b', t0.2.at', x2.err', a2, p2, t0.2.b'.length, v0, I, H, ft, hs.pk (.c d1 (.c d2 (.c d0 .n)))⟩)
  obtain ⟨hk, bk⟩ := hs.call tk1 (.c (xK d2) (.c xC .n));refine st 6 [true] (k_call H (fun _ m => bytes_Cursor_Fail.calls m hk) ?_);rintro t2 _ h H ⟨I, _, ⟨v4, rfl, rfl⟩, hk⟩;replace hs := bk hk ct2 rfl;exact st 1 [] (k_end ⟨t0.2.b', t2.at', t2.err', a2, p2, t0.2.b'.length, v4, I, H, ft, hs.pk (.c d2 (.c d1 (.c d0 .n)))⟩)
 clear H;rintro ρ h ⟨x3, x1, x4, a0, p0, n0, v1, I, H, hf, hs⟩;refine k_fits _ hf ?_ rfl;subst e0;try dsimp only at H
 cases hs.nR d0;refine st 6 [] (k_op (lB (hs.bl d2) 2 rfl ?_));rcases (hs.er d1).cases with ⟨c0, rfl⟩ | ⟨c0, t3, u0, rfl⟩
 rotate_left
 ·rw [if_neg c0] at H;obtain rfl := si H;exact st 7 [true] (k_retQ ⟨_, by kernel_rfl, I, _, ⟨none, 0, 0, a0, p0, x3.length, ((.iface t3 u0)), rfl, rfl⟩, hs.pk (.f imON (.c d2 (.c d0 (.c d0 .n))))⟩)
 rw [if_pos c0] at H;refine st 9 [false] (k_op (lB (hs.bl d2) 1 rfl ?_));refine st 4 [] (k_op (sB (v := iv (w64 (x1 + x0))) (hs.f d2) cw1 ?_));intro h hs;refine st 2 [] ?_;obtain ⟨hs0, bk0⟩ := hs.call tk0 (.c (qL d0) (.c (qK d1) .n));have hs := hs0;refine k_regD hs0 17 ?_;refine aRun [0, 1, 2] 14 hs.keep ?_;refine aL 3 rfl hs.keep (ll hs0 d0 (n := 0) rfl) (nmL hs0 d0) ?_;refine aRun [4, 5, 6] 10 hs.keep ?_;refine aL 7 rfl hs.keep (ll hs0 d0 (n := 1) rfl) (nmL hs0 d0) ?_;refine aRun [8, 9, 10, 11, 12] 4 hs.keep ?_;refine aL 13 rfl hs.keep (ll hs0 d0 (n := 1) rfl) (nmL hs0 d0) ?_;obtain ⟨c1, H⟩ := guard_pos H;obtain ⟨c2, H⟩ := guard_pos H;obtain ⟨c3, H⟩ := guard_pos H;refine aP 14 (.slice (slA a0 p0 (Int.toNat (w64 ((w64 (x1 + x0)) - x0))) 1) ((sub x3 (w64 ((w64 (x1 + x0)) - x0)) (w64 (x1 + x0))).length) (p0 - Int.toNat (w64 ((w64 (x1 + x0)) - x0)))) rfl (pS (e := 5) (k1 := .i64) (k2 := .i64) (hs.sR d1) c1 c2 c3) hs.keep ?_;obtain ⟨hk, bk⟩ := hs.call tk0 (.c (qP (qI d1) (lo := (w64 ((w64 (x1 + x0)) - x0))) (hi := (w64 (x1 + x0))) c1 c2 c3) .n);refine aO1 15 rfl (o_call H (fun _ m => slices_Clone_bytes.calls m hk) ?_);rintro t4 _ h H ⟨I, _, ⟨a5, p5, n5, rfl, rfl⟩, hk⟩;replace hs := bk hk ct1 rfl;cases hs.nO d0;refine ⟨hs.keep, ?_⟩;refine aRun [16] 0 hs.keep ?_;replace hs := hs.pk (.c d0 .n);replace hs := bk0 hs ct1 rfl;refine aEnd ?_;obtain rfl := si H;exact k_retQ ⟨_, by kernel_rfl, I, _, ⟨a5, p5, t4.length, a0, p0, x3.length, (.nilIface), rfl, rfl⟩, hs.pk (.c d0 (.c d0 (.c d0 (.c d0 .n))))⟩
def bytes_Cursor_Byte.m (x0 : bytes_Cursor) : Option (Int × bytes_Cursor) :=
  ((bytes_Cursor_Take.m x0 1).bind fun t0 => (if (t0.1.length : Int) = 0 then (some (0, t0.2)) else (if 0 < (t0.1.length : Int) then (some ((at_ t0.1 0), t0.2)) else none)))
theorem bytes_Cursor_Byte.calls {B I : Gh} {h : Heap} {x0 : bytes_Cursor} {b0 : Nat} {a0 : Option Addr} {p0 : Nat} {n0 : Nat} {v0 : Value} {r : (Int × bytes_Cursor)} (H : bytes_Cursor_Byte.m x0 = some r)  :
    Fc Tryz.prog 30 #[pv b0] [rB b0 [.slice a0 n0 p0, iv x0.at', v0] 146, rR (tInt .u8) .i a0 p0 n0 x0.b', rE .i v0 x0.err'] B I h (fun v L => ∃ a2 p2 n1 v2, v = .int .u8 r.1 ∧ L = [rB b0 [.slice a2 n1 p2, iv r.2.at', v2] 146, rR (tInt .u8) .i a2 p2 n1 r.2.b', rE .i v2 r.2.err']) := by
 refine fc_of fun E hs => ?_;unfold bytes_Cursor_Byte.m at H;cases hs.nR d1;refine fn_of (rs := [.tmp 2]) (N := 12) Tryz.func30 rfl rfl rfl rfl ?_;obtain ⟨hk, bk⟩ := hs.call tk1 (.c (qK d0) (.c (xK d1) .n));refine st 7 [] (k_call H (fun _ m => bytes_Cursor_Take.calls m hk) ?_);rintro t0 _ h H ⟨I, _, ⟨a3, p3, n2, a1, p1, n3, v1, rfl, rfl⟩, hk⟩;replace hs := bk hk ct4 rfl;cases hs.nO d0;cases hs.nR d2;refine st 7 [] (k_ite H (fun c1 H => ?_) (fun c1 H => ?_))
 ·obtain rfl := si H;exact st 6 [true] (k_retQ ⟨_, by kernel_rfl, I, _, ⟨a1, p1, t0.2.b'.length, (v1), rfl, rfl⟩, hs.pk (.c d1 (.c d1 (.c d1 .n)))⟩)
 obtain ⟨c0, H⟩ := guard_pos H;refine st 6 [false] (k_val (elemPtr a3 ((0 : Int).toNat * 1)) (pI (e := 5) (ik := .i64) (hs.sO d0) (by decide) c0) ?_);refine k_op (lC ((hs.sO d0).cell1 (by decide) c0) ?_);obtain rfl := si H;exact st 2 [] (k_retQ ⟨_, by kernel_rfl, I, _, ⟨a1, p1, t0.2.b'.length, (v1), rfl, rfl⟩, hs.pk (.c d1 (.c d1 (.c d1 .n)))⟩)
def attr_Char.m (x0 : Int) : Option Bool :=
  (if x0 = 0 then (some true) else (if x0 = 28 then (some true) else (if x0 = 30 then (some true) else (if x0 ≥ 64 then (some (x0 != 255)) else (some false)))))
theorem attr_Char.calls {x0 : Int} {h : Heap} {r : Bool} (H : attr_Char.m x0 = some r)   :
    Ret Tryz.prog 47 #[.int .u8 x0] h (fun v h' => .bool r = v ∧ h' = h) := by
 unfold attr_Char.m at H;refine fn_of (rs := [.tmp 2]) (N := 15) Tryz.func47 rfl rfl rfl rfl ?_;refine st 17 [] (k_ite H (fun c0 H => ?_) (fun c0 H => ?_))
 ·obtain rfl := si H;exact st 10 [true] (k_retQ ⟨_, by kernel_rfl, rfl, rfl⟩)
 refine st 7 [false] (k_ite H (fun c1 H => ?_) (fun c1 H => ?_))
 ·obtain rfl := si H;exact st 11 [true, true] (k_retQ ⟨_, by kernel_rfl, rfl, rfl⟩)
 refine st 4 [false] (k_ite H (fun c2 H => ?_) (fun c2 H => ?_))
 ·obtain rfl := si H;exact st 9 [true] (k_retQ ⟨_, by kernel_rfl, rfl, rfl⟩)
 refine st 8 [false] (k_ite H (fun c3 H => ?_) (fun c3 H => ?_))
 ·obtain rfl := si H;exact st 6 [] (k_retQ ⟨_, by kernel_rfl, rfl, rfl⟩)
 obtain rfl := si H;exact st 6 [] (k_retQ ⟨_, by kernel_rfl, rfl, rfl⟩)
def bytes_Cursor_Err.m (x0 : bytes_Cursor) : Option (GoErr × bytes_Cursor) :=
  (some (x0.err', x0))
theorem bytes_Cursor_Err.calls {B I : Gh} {h : Heap} {x0 : bytes_Cursor} {b0 : Nat} {v1 : Value} {v0 : Value} {r : (GoErr × bytes_Cursor)} (H : bytes_Cursor_Err.m x0 = some r)  :
    Fc Tryz.prog 31 #[pv b0] [rB b0 [v1, iv x0.at', v0] 146, rE .i v0 x0.err'] B I h (fun v L => ∃ v2 v3, v = v2 ∧ L = [rE .i v2 r.1, rB b0 [v1, iv r.2.at', v3] 146, rE .i v3 r.2.err']) := by
 refine fc_of fun E hs => ?_;unfold bytes_Cursor_Err.m at H;refine fn_of (rs := [.tmp 2]) (N := 7) Tryz.func31 rfl rfl rfl rfl ?_;refine st 9 [] (k_op (lB (hs.bl d0) 2 rfl ?_));refine st 2 [] ?_;replace hs := hs.dup d1 (fun _ x => x);obtain rfl := si H;exact k_retQ ⟨_, by kernel_rfl, I, _, ⟨(v0), (v0), rfl, rfl⟩, hs.pk (.c d2 (.c d1 (.c d0 .n)))⟩
def bytes_New.m (x0 : (List Int)) : Option bytes_Cursor :=
  ((slices_Clone_bytes.m x0).bind fun t0 => (some (⟨t0, 0, GoErr.nil⟩ : bytes_Cursor)))
theorem bytes_New.calls {B I : Gh} {h : Heap} {x0 : (List Int)} {a0 : Option Addr} {p0 : Nat} {n0 : Nat} {r : bytes_Cursor} (H : bytes_New.m x0 = some r)  :
    Fc Tryz.prog 29 #[.slice a0 n0 p0] [rR (tInt .u8) .b a0 p0 n0 x0] B I h (fun v L => ∃ b0 a2 p2 n1 v0, v = pv b0 ∧ L = [rB b0 [.slice a2 n1 p2, iv r.at', v0] 146, rR (tInt .u8) .i a2 p2 n1 r.b', rE .i v0 r.err']) := by
 refine fc_of fun E hs => ?_;unfold bytes_New.m at H;cases hs.nR d0;refine fn_of (rs := [.tmp 2]) (N := 7) Tryz.func29 rfl rfl rfl rfl ?_;obtain ⟨hk, bk⟩ := hs.call tk0 (.c (qB d0) .n);refine st 7 [] (k_call H (fun _ m => slices_Clone_bytes.calls m hk) ?_);rintro t0 _ h H ⟨I, _, ⟨a1, p1, n2, rfl, rfl⟩, hk⟩;replace hs := bk hk ct1 rfl;cases hs.nO d0;refine st 1 [] (k_op (nB hs [.slice a1 t0.length p1, iv 0, .nilIface] ?_));intro b1 h hs;obtain rfl := si H;obtain ⟨I, hs⟩ := (hs.f d1).fO;exact st 2 [] (k_retQ ⟨_, by kernel_rfl, I, _, ⟨b1, a1, p1, t0.length, (.nilIface), rfl, rfl⟩, hs.pk (.c d1 (.c d0 (.f imEN .n)))⟩)
def attr_Bare.m (x0 : Int) : Option Bool :=
  (if x0 = 108 then (some true) else (if x0 = 110 then (some true) else (if x0 = 107 then (some true) else (if x0 = 109 then (some true) else (some false)))))
theorem attr_Bare.calls {x0 : Int} {h : Heap} {r : Bool} (H : attr_Bare.m x0 = some r)   :
    Ret Tryz.prog 20 #[.int .u8 x0] h (fun v h' => .bool r = v ∧ h' = h) := by
 unfold attr_Bare.m at H;refine fn_of (rs := [.tmp 2]) (N := 10) Tryz.func20 rfl rfl rfl rfl ?_;refine st 18 [] (k_ite H (fun c0 H => ?_) (fun c0 H => ?_))
 ·obtain rfl := si H;exact st 12 [true, true] (k_retQ ⟨_, by kernel_rfl, rfl, rfl⟩)
 refine st 5 [false] (k_ite H (fun c1 H => ?_) (fun c1 H => ?_))
 ·obtain rfl := si H;exact st 12 [true, true] (k_retQ ⟨_, by kernel_rfl, rfl, rfl⟩)
 refine st 4 [false] (k_ite H (fun c2 H => ?_) (fun c2 H => ?_))
 ·obtain rfl := si H;exact st 10 [true] (k_retQ ⟨_, by kernel_rfl, rfl, rfl⟩)
 refine st 6 [false] (k_ite H (fun c3 H => ?_) (fun c3 H => ?_))
 ·obtain rfl := si H;exact st 9 [true] (k_retQ ⟨_, by kernel_rfl, rfl, rfl⟩)
 obtain rfl := si H;exact st 9 [false] (k_retQ ⟨_, by kernel_rfl, rfl, rfl⟩)
def attr_Aid.m (x0 : Int) : Option Bool :=
  ((attr_Bare.m x0).bind fun t0 => bif t0 then (some true) else (if x0 = 125 then (some true) else (if x0 ≥ 241 then (if x0 ≤ 249 then (some true) else (if x0 ≥ 122 then (some (decide (x0 ≤ 124))) else (some false))) else (if x0 ≥ 122 then (some (decide (x0 ≤ 124))) else (some false)))))
theorem attr_Aid.calls {x0 : Int} {h : Heap} {r : Bool} (H : attr_Aid.m x0 = some r)   :
    Ret Tryz.prog 19 #[.int .u8 x0] h (fun v h' => .bool r = v ∧ h' = h) := by
 unfold attr_Aid.m at H;refine fn_of (rs := [.tmp 2]) (N := 25) Tryz.func19 rfl rfl rfl rfl ?_;refine st 7 [] (k_call H (fun _ m => attr_Bare.calls m) ?_);rintro t0 _ _ H ⟨rfl, rfl⟩;cases t0;rotate_left
 ·rw [cond_true] at H;obtain rfl := si H;exact st 22 [] (k_retQ ⟨_, by kernel_rfl, rfl, rfl⟩)
 rw [cond_false] at H;refine st 2 [] (k_ite H (fun c0 H => ?_) (fun c0 H => ?_))
 ·obtain rfl := si H;exact st 19 [] (k_retQ ⟨_, by kernel_rfl, rfl, rfl⟩)
 refine st 3 [] (k_ite H (fun c1 H => ?_) (fun c1 H => ?_));rotate_left
 ·refine st 7 [] (k_ite H (fun c4 H => ?_) (fun c4 H => ?_))
  ·obtain rfl := si H;exact st 7 [] (k_retQ ⟨_, by kernel_rfl, rfl, rfl⟩)
  obtain rfl := si H;exact st 7 [] (k_retQ ⟨_, by kernel_rfl, rfl, rfl⟩)
 refine st 2 [] (k_ite H (fun c2 H => ?_) (fun c2 H => ?_))
 ·obtain rfl := si H;exact st 12 [] (k_retQ ⟨_, by kernel_rfl, rfl, rfl⟩)
 refine st 4 [] (k_ite H (fun c3 H => ?_) (fun c3 H => ?_))
 ·obtain rfl := si H;exact st 7 [] (k_retQ ⟨_, by kernel_rfl, rfl, rfl⟩)
 obtain rfl := si H;exact st 7 [] (k_retQ ⟨_, by kernel_rfl, rfl, rfl⟩)
def field_Formatted_1.m (x0 : api_Cell) : Option Bool :=
  (some x0.Field)
theorem field_Formatted_1.calls {B I : Gh} {h : Heap} {x0 : api_Cell} {r : Bool} (H : field_Formatted_1.m x0 = some r)  :
    Fc Tryz.prog 58 #[.agg (cl_api_Cell x0).toArray] [] B I h (fun v L => v = .bool r ∧ L = []) := by
 refine fc_of fun E hs => ?_;unfold field_Formatted_1.m at H;refine fn_of (rs := [.tmp 2]) (N := 5) Tryz.func58 rfl rfl rfl rfl ?_;refine st 2 [] (k_op (nB hs (cl_api_Cell x0) ?_));intro b0 h hs;refine st 5 [] (k_op (lB (hs.bl d0) 0 rfl ?_));obtain rfl := si H;exact st 2 [] (k_retQ ⟨_, by kernel_rfl, I, _, ⟨rfl, rfl⟩, hs.pk .n⟩)
def slices_IndexFunc_api_Cell__field_Formatted_1.l1.m (K : Nat) (x1 : (List api_Cell)) : Nat → Int → Option (Int ⊕ (Unit))
  | 0, _ => none
  | k + 1, x0 => (letJ (α := Bool → Option (Int ⊕ (Unit))) (fun x2 => (bif x2 then (if 0 ≤ x0 then (if x0 < (x1.length : Int) then ((field_Formatted_1.m (⟨(at_ x1 x0).Field, ((at_ x1 x0).Attr), (at_ x1 x0).Char⟩ : api_Cell)).bind fun t0 => bif t0 then (some (Sum.inl x0)) else (slices_IndexFunc_api_Cell__field_Formatted_1.l1.m K x1 k (w64 (x0 + 1)))) else none) else none) else (some (Sum.inr ())))) fun j0 => (if x0 < (x1.length : Int) then (j0 true) else (j0 false)))
def slices_IndexFunc_api_Cell__field_Formatted_1.m (K : Nat) (x0 : (List api_Cell)) : Option Int :=
  ((slices_IndexFunc_api_Cell__field_Formatted_1.l1.m K x0 K 0).bind fun s0 => match s0 with | .inl q => (some q) | .inr _ => (some (-1)))
theorem slices_IndexFunc_api_Cell__field_Formatted_1.calls {B I : Gh} {h : Heap} {K : Nat} {x0 : (List api_Cell)} {a0 : Option Addr} {p0 : Nat} {n0 : Nat} {r : Int} (H : slices_IndexFunc_api_Cell__field_Formatted_1.m K x0 = some r)  :
    Fc Tryz.prog 92 #[.slice a0 n0 p0, .func (.func 58) #[] #[]] [rR t_api_Cell .b a0 p0 n0 x0] B I h (fun v L => v = iv r ∧ L = []) := by
 refine fc_of fun E hs => ?_;unfold slices_IndexFunc_api_Cell__field_Formatted_1.m at H;cases hs.nR d0;refine fn_of (rs := [.tmp 4]) (N := 19) Tryz.func92 rfl rfl rfl rfl ?_;refine st 12 [] ?_;obtain ⟨s0, m0, HR0⟩ := bind_some H;refine k_loop 0 (fun k' ρ h => ∃ (x1 : Int), ∃ I, slices_IndexFunc_api_Cell__field_Formatted_1.l1.m K x0 k' x1 = some s0 ∧ Fits [(0, .slice a0 x0.length p0), (1, .func (.func 58) #[] #[]), (7, iv (x0.length : Int)), (8, iv x1)] ρ ∧ St E [rR t_api_Cell .b a0 p0 x0.length x0] I h) (fun ρ h => ∃ I, Sum.inr () = s0 ∧ Fits [] ρ ∧ St E [rR t_api_Cell .b a0 p0 x0.length x0] I h) K ⟨0, I, m0, ft, hs.pk (.c d0 .n)⟩ ?_ rfl ?_;rotate_left
 ·rintro ρ h ⟨I, rfl, hf, hs⟩;have H := HR0;try dsimp only at H
  refine k_fits _ hf ?_ rfl;obtain rfl := si H;exact st 4 [] (k_retQ ⟨_, by kernel_rfl, I, _, ⟨rfl, rfl⟩, hs.pk .n⟩)
 clear m0 H;rintro k' ρ h ⟨x1, I, H, hf, hs⟩;cases k' with
 | zero => cases H
 | succ k =>
  rw [slices_IndexFunc_api_Cell__field_Formatted_1.l1.m] at H;refine k_fits _ hf ?_ rfl;refine st 1 [] ?_;obtain ⟨j0, e0, H⟩ := letJ_some H;refine k_join (fun ρ h => ∃ (x2 : Bool), ∃ I, j0 x2 = some s0 ∧ Fits [(0, .slice a0 x0.length p0), (1, .func (.func 58) #[] #[]), (7, iv (x0.length : Int)), (8, iv x1), (9, .bool x2)] ρ ∧ St E [rR t_api_Cell .b a0 p0 x0.length x0] I h) ?_ ?_
  ·refine st 1 [] (k_ite H (fun c2 H => ?_) (fun c2 H => ?_))
   ·exact st 1 [] (k_end ⟨true, I, H, ft, hs.pk (.c d0 .n)⟩)
   exact st 1 [] (k_end ⟨false, I, H, ft, hs.pk (.c d0 .n)⟩)
  clear H;rintro ρ h ⟨x2, I, H, hf, hs⟩;refine k_fits _ hf ?_ rfl;subst e0;try dsimp only at H
  cases x2
  ·rw [cond_false] at H;refine st 2 [false] (k_out rfl ?_);obtain rfl := si H;exact xE ⟨I, rfl, trivial, hs.pk (.c d0 .n)⟩
  rw [cond_true] at H;obtain ⟨c0, H⟩ := guard_pos H;obtain ⟨c1, H⟩ := guard_pos H;refine st 15 [true] (k_val (elemPtr a0 (x1.toNat * 6)) (pI (e := 36) (ik := .i64) (hs.sR d0) c0 c1) ?_);obtain ⟨y0, g0, q0⟩ := (hs.sR d0).toSl.seg c0 c1;obtain rfl := t_api_Cell.open_ q0;refine k_op (lG g0 ?_);obtain ⟨hk, bk⟩ := hs.call tk0 .n;refine k_call H (fun _ m => field_Formatted_1.calls m hk) ?_;rintro t0 _ h H ⟨I, _, ⟨rfl, rfl⟩, hk⟩;replace hs := bk hk ct0 rfl;cases t0
  ·rw [cond_false] at H;exact st 8 [false] (k_endL ⟨k, Nat.lt_succ_self _, (w64 (x1 + 1)), I, H, ft, hs.pk (.c d0 .n)⟩)
  rw [cond_true] at H;refine st 7 [true] (k_retQ (krL ?_));obtain rfl := si H;obtain rfl := Option.some.inj HR0;exact ⟨_, by kernel_rfl, I, _, ⟨rfl, rfl⟩, hs.pk .n⟩
def slices_ContainsFunc_api_Cell__field_Formatted_1.m (K : Nat) (x0 : (List api_Cell)) : Option Bool :=
  ((slices_IndexFunc_api_Cell__field_Formatted_1.m K x0).bind fun t0 => (some (decide (t0 ≥ 0))))
theorem slices_ContainsFunc_api_Cell__field_Formatted_1.calls {B I : Gh} {h : Heap} {K : Nat} {x0 : (List api_Cell)} {a0 : Option Addr} {p0 : Nat} {n0 : Nat} {r : Bool} (H : slices_ContainsFunc_api_Cell__field_Formatted_1.m K x0 = some r)  :
    Fc Tryz.prog 57 #[.slice a0 n0 p0, .func (.func 58) #[] #[]] [rR t_api_Cell .b a0 p0 n0 x0] B I h (fun v L => v = .bool r ∧ L = []) := by
 refine fc_of fun E hs => ?_;unfold slices_ContainsFunc_api_Cell__field_Formatted_1.m at H;cases hs.nR d0;refine fn_of (rs := [.tmp 4]) (N := 9) Tryz.func57 rfl rfl rfl rfl ?_;obtain ⟨hk, bk⟩ := hs.call tk0 (.c (qB d0) .n);refine st 8 [] (k_call H (fun _ m => slices_IndexFunc_api_Cell__field_Formatted_1.calls m hk) ?_);rintro t0 _ h H ⟨I, _, ⟨rfl, rfl⟩, hk⟩;replace hs := bk hk ct0 rfl;obtain rfl := si H;exact st 3 [] (k_retQ ⟨_, by kernel_rfl, I, _, ⟨rfl, rfl⟩, hs.pk .n⟩)
def field_Formatted.m (K : Nat) (x0 : api_Screen) : Option Bool :=
  ((slices_ContainsFunc_api_Cell__field_Formatted_1.m K x0.Cells).bind fun t0 => (some t0))
theorem field_Formatted.calls {B I : Gh} {h : Heap} {K : Nat} {x0 : api_Screen} {a0 : Option Addr} {p0 : Nat} {n0 : Nat} {r : Bool} (H : field_Formatted.m K x0 = some r)  :
    Fc Tryz.prog 21 #[.agg (cl_api_Screen x0 a0 n0 p0).toArray] [rR t_api_Cell .b a0 p0 n0 x0.Cells] B I h (fun v L => v = .bool r ∧ L = []) := by
 refine fc_of fun E hs => ?_;unfold field_Formatted.m at H;cases hs.nR d0;refine fn_of (rs := [.tmp 2]) (N := 6) Tryz.func21 rfl rfl rfl rfl ?_;refine st 2 [] (k_op (nB hs (cl_api_Screen x0 a0 x0.Cells.length p0) ?_));intro b0 h hs;refine st 5 [] (k_op (lB (hs.bl d0) 2 rfl ?_));obtain ⟨hk, bk⟩ := hs.call tk0 (.c (qB d1) .n);refine k_call H (fun _ m => slices_ContainsFunc_api_Cell__field_Formatted_1.calls m hk) ?_;rintro t0 _ h H ⟨I, _, ⟨rfl, rfl⟩, hk⟩;replace hs := bk hk ct0 rfl;obtain rfl := si H;exact st 2 [] (k_retQ ⟨_, by kernel_rfl, I, _, ⟨rfl, rfl⟩, hs.pk .n⟩)
def read_letters.l1.m (K : Nat) (x2 : api_Screen) (x1 : (List Int)) : Nat → (List Int) → Int → Option ((List Int))
  | 0, _, _ => none
  | k + 1, x3, x0 => (letJ (α := Bool → Option ((List Int))) (fun x4 => (bif x4 then (if 0 ≤ x0 then (if x0 < (x1.length : Int) then (if 0 ≤ (at_ x1 x0) then (if (at_ x1 x0) < (x2.Cells.length : Int) then (bif (at_ x2.Cells (at_ x1 x0)).Field then none else (if (at_ x2.Cells (at_ x1 x0)).Char = 0 then (read_letters.l1.m K x2 x1 k x3 (w64 (x0 + 1))) else ((app x3 [(at_ x2.Cells (at_ x1 x0)).Char]).bind fun l0 => (read_letters.l1.m K x2 x1 k l0 (w64 (x0 + 1)))))) else none) else none) else none) else none) else (some (x3)))) fun j0 => (if x0 < (x1.length : Int) then (j0 true) else (j0 false)))
def read_letters.m (K : Nat) (x0 : api_Screen) (x1 : (List Int)) : Option (List Int) :=
  ((read_letters.l1.m K x0 x1 K [] 0).bind fun x2 => (some x2))
theorem read_letters.calls {B I : Gh} {h : Heap} {K : Nat} {x2 : api_Screen} {x0 : (List Int)} {a2 : Option Addr} {p3 : Nat} {n2 : Nat} {a1 : Option Addr} {p1 : Nat} {n3 : Nat} {r : (List Int)} (H : read_letters.m K x2 x0 = some r)  :
    Fc Tryz.prog 22 #[.agg (cl_api_Screen x2 a2 n2 p3).toArray, .slice a1 n3 p1] [rR t_api_Cell .b a2 p3 n2 x2.Cells, rR (tInt .i64) .b a1 p1 n3 x0] B I h (fun v L => ∃ a4 p4 n4, v = .slice a4 n4 p4 ∧ L = [rO (tInt .u8) .i a4 p4 n4 r]) := by
 refine fc_of fun E hs => ?_;unfold read_letters.m at H;cases hs.nR d0;cases hs.nR d1;refine fn_of (rs := [.tmp 4]) (N := 35) Tryz.func22 rfl rfl rfl rfl ?_;refine st 2 [] (k_op (nB hs (cl_api_Screen x2 a2 x2.Cells.length p3) ?_));intro b0 h hs;refine st 14 [] ?_;obtain ⟨s0, m0, HR0⟩ := bind_some H;refine k_loopT hs tl0 0 (fun T k' ρ h => ∃ (x3 : List Int) (x1 : Int), ∃ a0 p0 n0 I, read_letters.l1.m K x2 x0 k' x3 x1 = some s0 ∧ Fits [(2, pv b0), (5, .slice a0 n0 p0), (9, .slice a1 x0.length p1), (10, iv (x0.length : Int)), (11, iv x1)] ρ ∧ St E (rO (tInt .u8) .i a0 p0 n0 x3 :: T) I h) (fun T ρ h => ∃ (x4 : List Int), ∃ a3 p2 n1 I, x4 = s0 ∧ Fits [(5, .slice a3 n1 p2)] ρ ∧ St E (rO (tInt .u8) .i a3 p2 n1 x4 :: T) I h) K ⟨[], 0, none, 0, 0, I, m0, ft, hs.pk (.f imON pk0)⟩ ?_ rfl ?_;rotate_left
 ·rintro ρ h ⟨x4, a3, p2, n1, I, rfl, hf, hs⟩;have H := HR0;try dsimp only at H
  refine k_fits _ hf ?_ rfl;cases hs.nO d0;obtain rfl := si H;exact st 5 [] (k_retQ ⟨_, by kernel_rfl, I, _, ⟨a3, p2, x4.length, rfl, rfl⟩, hs.pk (.c d0 .n)⟩)
 clear HR0 m0 H;rintro k' ρ h ⟨x3, x1, a0, p0, n0, I, H, hf, hs⟩;cases k' with
 | zero => cases H
 | succ k =>
  rw [read_letters.l1.m] at H;refine k_fits _ hf ?_ rfl;cases hs.nO d0;refine st 1 [] (k_jF H hs (fun x5 => [(2, pv b0), (5, .slice a0 x3.length p0), (9, .slice a1 x0.length p1), (10, iv (x0.length : Int)), (11, iv x1), (12, .bool x5)]) ?_ ?_ ?_)
  ·intro j0 H;refine st 1 [] (k_ite H (fun c4 H => ?_) (fun c4 H => ?_))
   ·exact st 1 [] (k_end ⟨true, I, H, ft, hs⟩)
   exact st 1 [] (k_end ⟨false, I, H, ft, hs⟩)
  ·intro ρ h I H hs;refine st 2 [false] (k_out rfl ?_);obtain rfl := si H;exact xE ⟨x3, a0, p0, x3.length, I, rfl, ft, hs.pk (.c d0 pk0)⟩
  intro ρ h I H hs;obtain ⟨c0, H⟩ := guard_pos H;obtain ⟨c1, H⟩ := guard_pos H;refine st 7 [true] (k_val (elemPtr a1 (x1.toNat * 1)) (pI (e := 3) (ik := .i64) (hs.sR d3) c0 c1) ?_);refine k_op (lC ((hs.sR d3).cell1 c0 c1) ?_);refine st 5 [] (k_op (lB (hs.bl d1) 2 rfl ?_));obtain ⟨c2, H⟩ := guard_pos H;obtain ⟨c3, H⟩ := guard_pos H;refine st 1 [] (k_val (elemPtr a2 ((at_ x0 x1).toNat * 6)) (pI (e := 36) (ik := .i64) (hs.sR d2) c2 c3) ?_);obtain ⟨y0, g0, q0⟩ := (hs.sR d2).toSl.seg c2 c3;obtain rfl := t_api_Cell.open_ q0;refine k_op (lG g0 ?_);refine k_op (nA hs [.bool false, .bool false, .bool false, iv 0, .bool false, .int .u8 0] (.agg #[.bool false, .bool false, .bool false, iv 0, .bool false, .int .u8 0]) ?_);intro b1 h hs;refine k_op (sN0 hs [.bool ((at_ x2.Cells (at_ x0 x1)).Field), .bool (((at_ x2.Cells (at_ x0 x1)).Attr).Protected), .bool (((at_ x2.Cells (at_ x0 x1)).Attr).Numeric), iv (((at_ x2.Cells (at_ x0 x1)).Attr).Show), .bool (((at_ x2.Cells (at_ x0 x1)).Attr).Modified), .int .u8 ((at_ x2.Cells (at_ x0 x1)).Char)] (ones_of rfl) ?_);intro h hs;refine st 4 [] (k_op (lB (hs.bl d0) 0 rfl ?_));refine k_spl H (fun c5 H => ?_) (fun c5 H => ?_)
  ·cases H
  refine st 3 [] (k_op (lB (hs.bl d0) 5 rfl ?_));refine k_iteN H (fun c6 H => ?_) (fun c6 H => ?_)
  ·exact st 9 [false] (k_endL ⟨k, Nat.lt_succ_self _, x3, (w64 (x1 + 1)), a0, p0, x3.length, I, H, ft, hs.pk (.c d1 pk1)⟩)
  refine st 6 [true] (k_op (lB (hs.bl d0) 5 rfl ?_));refine k_op (nS (e := 5) hs .i (tInt .u8) ([(at_ x2.Cells (at_ x0 x1)).Char] : List Int) [.int .u8 ((at_ x2.Cells (at_ x0 x1)).Char)] 1 (.int .u8 0) (Reps.int (I := (Cl.G .i E.B I)) (k := .u8) (l := [(at_ x2.Cells (at_ x0 x1)).Char])) ?_);intro b2 h hs;replace hs := (hs.f d2);obtain ⟨l0, m1, H⟩ := bind_some H;refine k_op (aO (e := 5) (bytes := 1) hs (hs.sO d1) m1 ?_);intro a5 p5 h hs;exact st 7 [] (k_endL ⟨k, Nat.lt_succ_self _, l0, (w64 (x1 + 1)), a5, p5, l0.length, I, H, ft, hs.pk (.c d0 pk2)⟩)
def grid_On.m (x0 : api_Screen) (x1 : Int) (x2 : Int) : Option Int :=
  (if (x0.Cells.length : Int) ≠ 0 then (some (Int.tmod (w64 ((w64 (x1 + (Int.tmod x2 (x0.Cells.length : Int)))) + (x0.Cells.length : Int))) (x0.Cells.length : Int))) else none)
theorem grid_On.calls {B I : Gh} {h : Heap} {x0 : api_Screen} {x2 : Int} {x1 : Int} {a0 : Option Addr} {p0 : Nat} {n0 : Nat} {r : Int} (H : grid_On.m x0 x2 x1 = some r)  :
    Fc Tryz.prog 25 #[.agg (cl_api_Screen x0 a0 n0 p0).toArray, iv x2, iv x1] [rR t_api_Cell .b a0 p0 n0 x0.Cells] B I h (fun v L => v = iv r ∧ L = []) := by
 refine fc_of fun E hs => ?_;unfold grid_On.m at H;cases hs.nR d0;refine fn_of (rs := [.tmp 6]) (N := 20) Tryz.func25 rfl rfl rfl rfl ?_;refine st 2 [] (k_op (nB hs (cl_api_Screen x0 a0 x0.Cells.length p0) ?_));intro b0 h hs;refine st 5 [] (k_op (lB (hs.bl d0) 2 rfl ?_));obtain ⟨c0, H⟩ := guard_pos H;refine st 8 [] (k_val (iv (Int.tmod x1 (x0.Cells.length : Int))) (pr_rem (k := .i64) (a := x1) (b := (x0.Cells.length : Int)) (by kernel_rfl) (by kernel_rfl) c0) ?_);refine st 4 [] (k_val (iv (Int.tmod (w64 ((w64 (x2 + (Int.tmod x1 (x0.Cells.length : Int)))) + (x0.Cells.length : Int))) (x0.Cells.length : Int))) (pr_rem (k := .i64) (a := (w64 ((w64 (x2 + (Int.tmod x1 (x0.Cells.length : Int)))) + (x0.Cells.length : Int)))) (b := (x0.Cells.length : Int)) (by kernel_rfl) (by kernel_rfl) c0) ?_);obtain rfl := si H;exact st 2 [] (k_retQ ⟨_, by kernel_rfl, I, _, ⟨rfl, rfl⟩, hs.pk .n⟩)
def field_sign.m (x0 : Int) : Option Int :=
  (if x0 < 0 then (some (-1)) else (some 1))
theorem field_sign.calls {x0 : Int} {h : Heap} {r : Int} (H : field_sign.m x0 = some r)   :
    Ret Tryz.prog 94 #[iv x0] h (fun v h' => iv r = v ∧ h' = h) := by
 unfold field_sign.m at H;refine fn_of (rs := [.tmp 2]) (N := 5) Tryz.func94 rfl rfl rfl rfl ?_;refine st 8 [] (k_ite H (fun c0 H => ?_) (fun c0 H => ?_))
 ·obtain rfl := si H;exact st 6 [true] (k_retQ ⟨_, by kernel_rfl, rfl, rfl⟩)
 obtain rfl := si H;exact st 7 [false] (k_retQ ⟨_, by kernel_rfl, rfl, rfl⟩)
def field_round.xs (s : api_Screen) (sg : Int) : Nat → Int → Option (List Int)
  | 0, _ => some []
  | n + 1, x => (grid_On.m s x sg).bind fun y => (field_round.xs s sg n y).bind fun l => some (x :: l)
def field_round.m (x0 : api_Screen) (x1 : Int) (x2 : Int) : Option (List Int) :=
  if (x0.Cells.length : Int) ≤ 1099511627776 then (grid_On.m x0 x1 x2).bind fun x => (field_sign.m x2).bind fun sg => field_round.xs x0 sg x0.Cells.length x else none
theorem field_round.xs_len {s : api_Screen} {sg : Int} : ∀ {n : Nat} {x : Int} {l : List Int}, field_round.xs s sg n x = some l → l.length = n
  | 0, _, l, h => by obtain rfl := Option.some.inj h; rfl
  | n + 1, x, l, h => by
    unfold field_round.xs at h
    obtain ⟨y, _, h⟩ := bind_some h
    obtain ⟨l', h1, h⟩ := bind_some h
    obtain rfl := Option.some.inj h
    rw [List.length_cons, field_round.xs_len h1]
theorem field_round.xs_cons {s : api_Screen} {sg : Int} {n : Nat} {x x' : Int} {l : List Int} (h : field_round.xs s sg (n + 1) x = some (x' :: l)) : x' = x ∧ ∃ y, grid_On.m s x sg = some y ∧ field_round.xs s sg n y = some l := by
  unfold field_round.xs at h
  obtain ⟨y, h1, h⟩ := bind_some h
  obtain ⟨l', h2, h⟩ := bind_some h
  have e := Option.some.inj h
  obtain ⟨rfl, rfl⟩ := List.cons.inj e
  exact ⟨rfl, y, h1, h2⟩
theorem field_round.calls {B I : Gh} {h : Heap} {x0 : api_Screen} {x1 : Int} {x2 : Int} {a21 : Option Addr} {p22 : Nat} {n23 : Nat} {r : List Int} (H : field_round.m x0 x1 x2 = some r) :
    Fc Tryz.prog 60 #[.agg #[.int .i64 x0.Rows, .int .i64 x0.Cols, .slice a21 n23 p22, .int .i64 x0.Cursor, .bool x0.Locked, .bool x0.Insert], .int .i64 x1, .int .i64 x2] [] B I h
      (fun v L => ∃ (b1 b2 b3 : Nat), v = .func (.func 93) #[] #[.pointer (some ⟨b1, 0, none⟩), .pointer (some ⟨b2, 0, none⟩), .pointer (some ⟨b3, 0, none⟩)] ∧
        L = [rB b1 [.int .i64 x0.Rows, .int .i64 x0.Cols, .slice a21 n23 p22, .int .i64 x0.Cursor, .bool x0.Locked, .bool x0.Insert] 27, rB b2 [.int .i64 x1] 3, rB b3 [.int .i64 x2] 3] ∧ field_round.m x0 x1 x2 = some r) := by
 refine fc_of fun E hs => ?_
 refine fn_of (args := [.agg #[.int .i64 x0.Rows, .int .i64 x0.Cols, .slice a21 n23 p22, .int .i64 x0.Cursor, .bool x0.Locked, .bool x0.Insert], .int .i64 x1, .int .i64 x2]) (rs := [.tmp 6]) (N := 8) Tryz.func60 rfl rfl rfl rfl ?_
 refine st 2 [] (k_op (nB hs [.int .i64 x0.Rows, .int .i64 x0.Cols, .slice a21 n23 p22, .int .i64 x0.Cursor, .bool x0.Locked, .bool x0.Insert] ?_))
 intro b1 h hs
 refine k_op (nB hs [.int .i64 x1] ?_)
 intro b2 h hs
 refine k_op (nB hs [.int .i64 x2] ?_)
 intro b3 h hs
 refine st 7 [] ?_
 refine k_retQ ?_
 exact ⟨_, by kernel_rfl, I, _, ⟨b1, b2, b3, rfl, rfl, H⟩, hs.pk (.c d2 (.c d1 (.c d0 .n)))⟩
structure RndH (s : api_Screen) (x1 x2 : Int) (a : Option Addr) (p n b1 b2 b3 : Nat) (h : Heap) : Prop where
  s1 : segAt h (some ⟨b1, 0, none⟩) 0 6 = some [.int .i64 s.Rows, .int .i64 s.Cols, .slice a n p, .int .i64 s.Cursor, .bool s.Locked, .bool s.Insert]
  c1 : cellAt h (some ⟨b1, 0, none⟩) 2 = some (.slice a n p)
  c2 : cellAt h (some ⟨b2, 0, none⟩) 0 = some (.int .i64 x1)
  c3 : cellAt h (some ⟨b3, 0, none⟩) 0 = some (.int .i64 x2)
  rd : ∃ I, Bd I h ∧ Rd t_api_Cell I h a p s.Cells
  len : s.Cells.length = n
theorem grid_On.ret {s : api_Screen} {x y r : Int} {a : Option Addr} {p n : Nat} {h : Heap} (H : grid_On.m s x y = some r) (hr : ∃ I, Bd I h ∧ Rd t_api_Cell I h a p s.Cells) (hl : s.Cells.length = n) :
    Ret Tryz.prog 25 #[.agg #[.int .i64 s.Rows, .int .i64 s.Cols, .slice a n p, .int .i64 s.Cursor, .bool s.Locked, .bool s.Insert], .int .i64 x, .int .i64 y] h (fun v h' => v = .int .i64 r ∧ Grown h h') := by
  obtain ⟨I, hB, rd⟩ := hr
  have pl : St (en [rR t_api_Cell .b a p n s.Cells] No I h) [rR t_api_Cell .b a p n s.Cells] I h :=
    ⟨Pst.refl hB, fun _ x => x.elim, fun _ _ x => x, ⟨⟨⟨rd.mono (fun _ y => .inl y), hl⟩, fun _ x => x.elim, fun _ x => x.elim⟩, trivial⟩, fun _ x => .inl x⟩
  refine (grid_On.calls (B := No) H pl).mono ?_
  rintro v h' ⟨I', L, ⟨rfl, rfl⟩, hs⟩
  exact ⟨rfl, hs.pst.grown fun b x => x.elim id id⟩
theorem field_round.iter {s : api_Screen} {x1 x2 : Int} {a : Option Addr} {p n b1 b2 b3 : Nat} {xs : List Int} (H : field_round.m s x1 x2 = some xs) :
    Iter Tryz.prog 93 #[.pointer (some ⟨b1, 0, none⟩), .pointer (some ⟨b2, 0, none⟩), .pointer (some ⟨b3, 0, none⟩)] (fun x => #[Value.int .i64 x]) xs (RndH s x1 x2 a p n b1 b2 b3) := by
  unfold field_round.m at H
  obtain ⟨hlim, H⟩ := guard_pos H
  intro l J Jx hJH hJG hXG hy h h0
  have H0 := hJH _ _ h0
  refine fn_of (args := [.func (.yield l) #[] #[], .pointer (some ⟨b1, 0, none⟩), .pointer (some ⟨b2, 0, none⟩), .pointer (some ⟨b3, 0, none⟩)]) (rs := []) (N := 25) Tryz.func93 rfl rfl rfl rfl ?_
  refine st 2 [] (k_op (lG (a := some ⟨b1, 0, none⟩) (n := 0) H0.s1 ?_))
  refine k_op (lC (a := some ⟨b2, 0, none⟩) (n := 0) H0.c2 ?_)
  refine k_op (lC (a := some ⟨b3, 0, none⟩) (n := 0) H0.c3 ?_)
  refine k_call H (fun _ m => grid_On.ret m H0.rd H0.len) ?_
  rintro x _ h1 H ⟨rfl, g1⟩
  have h0 := hJG _ _ _ h0 g1
  have H0 := hJH _ _ h0
  obtain ⟨sg, Hs, H⟩ := bind_some H
  have hln := field_round.xs_len H
  have hn := H0.len
  refine st 5 [] (k_op (lC (a := some ⟨b1, 0, none⟩) (n := 2) H0.c1 ?_))
  refine st 4 [] ?_
  refine k_loop 0 (fun k ρ h => ∃ (pre rest : List Int) (x i : Int), xs = pre ++ rest ∧ field_round.xs s sg rest.length x = some rest ∧ k = rest.length ∧ i = (pre.length : Int) ∧
    Fits [(0, .func (.yield l) #[] #[]), (1, .pointer (some ⟨b1, 0, none⟩)), (2, .pointer (some ⟨b2, 0, none⟩)), (3, .pointer (some ⟨b3, 0, none⟩)), (5, .int .i64 x), (12, .int .i64 (n : Int)), (13, .int .i64 i)] ρ ∧ J pre h)
    (fun _ h => J xs h) xs.length ⟨[], xs, x, 0, rfl, by rw [hln]; exact H, rfl, rfl, ⟨by kernel_rfl, by kernel_rfl, by kernel_rfl, by kernel_rfl, by kernel_rfl, by kernel_rfl, by kernel_rfl, trivial⟩, h0⟩ ?_ rfl ?_
  · rintro k ρ h2 ⟨pre, rest, x, i, hx, hr, rfl, hi, hf, hJ⟩
    refine k_fits _ hf ?_ rfl
    have H0 := hJH _ _ hJ
    have hl2 : (pre.length : Int) + (rest.length : Int) = (n : Int) := by rw [← hn, ← hln, hx, List.length_append]; omega
    cases rest with
    | nil =>
      rw [List.append_nil] at hx
      subst hx
      refine st 2 [] (k_val (.bool false) (pr_bool (b := decide (i < (n : Int))) (by kernel_rfl) (decide_eq_false (by rw [hi]; simp at hl2; omega))) ?_)
      refine st 3 [false] ?_
      refine k_out rfl ?_
      exact xE hJ
    | cons x' rest =>
      rw [List.length_cons] at hl2
      obtain ⟨rfl, y, hy1, hy2⟩ := field_round.xs_cons hr
      refine st 2 [] (k_val (.bool true) (pr_bool (b := decide (i < (n : Int))) (by kernel_rfl) (decide_eq_true (by rw [hi]; omega))) ?_)
      refine st 11 [true] (k_op (owp_yield (args := #[.int .i64 x']) (hy pre x' rest h2 hx hJ) ?_))
      rintro b h3 (⟨rfl, hJ3⟩ | ⟨rfl, hX⟩)
      · have H3 := hJH _ _ hJ3
        refine st 4 [false] ?_
        refine k_regP 6 ?_
        refine aG (a := some ⟨b1, 0, none⟩) (n := 0) 0 rfl Keep.refl H3.s1 (fun _ _ x => x) ?_
        refine aRun [1] 4 Keep.refl ?_
        refine aL (a := some ⟨b3, 0, none⟩) (n := 0) 2 rfl Keep.refl H3.c3 (fun _ _ x => x) ?_
        refine aO1 3 rfl (owp_callF (by kernel_rfl) (field_sign.calls Hs) ?_)
        rintro v h' ⟨e1, e2⟩
        rw [← e1, e2]
        refine ⟨Keep.refl, ?_⟩
        refine aO1 4 rfl (owp_callF (by kernel_rfl) (grid_On.ret hy1 H3.rd H3.len) ?_)
        rintro _ h4 ⟨rfl, g4⟩
        have hk : Keep No h3 h4 := fun b hb _ => g4.keep b hb
        refine ⟨hk, ?_⟩
        refine aRun [5] 0 hk ?_
        refine aEnd ?_
        refine st 5 [] ?_
        have e : w64 (i + 1) = ((pre ++ [x']).length : Int) := by
          rw [List.length_append, List.length_singleton, w64_sm (by omega) (by omega)]; omega
        exact k_endL ⟨rest.length, by simp, pre ++ [x'], rest, y, w64 (i + 1), by rw [hx]; simp, hy2, rfl, e, ⟨by kernel_rfl, by kernel_rfl, by kernel_rfl, by kernel_rfl, by kernel_rfl, by kernel_rfl, by kernel_rfl, trivial⟩, hJG _ _ _ hJ3 g4⟩
      · refine st 3 [true] ?_
        refine k_retQ (krL ?_)
        exact ⟨.tuple #[], by kernel_rfl, .inr ⟨_, hX⟩⟩
  · rintro ρ h2 hJ
    refine k_fin ?_
    exact ⟨.tuple #[], by kernel_rfl, .inl hJ⟩
def field_Begin.l1.m (K : Nat) (x1 : api_Screen) : List Int → Option (Int ⊕ (Unit))
  | [] => some (Sum.inr ())
  | x0 :: xs => (if 0 ≤ x0 then (if x0 < (x1.Cells.length : Int) then (bif (at_ x1.Cells x0).Field then (some (Sum.inl x0)) else (field_Begin.l1.m K x1 xs)) else none) else none)
def field_Begin.m (K : Nat) (x1 : api_Screen) (x0 : Int) : Option Int :=
  (if 0 ≤ x0 then (if x0 < (x1.Cells.length : Int) then (bif (at_ x1.Cells x0).Field then (some x0) else ((field_round.m x1 x0 (-1)).bind fun t0 => ((field_Begin.l1.m K x1 t0).bind fun s0 => match s0 with | .inl q => (some q) | .inr _ => (some (-1))))) else none) else none)
theorem field_Begin.calls {B I : Gh} {h : Heap} {K : Nat} {x0 : api_Screen} {x1 : Int} {a21 : Option Addr} {p22 : Nat} {n23 : Nat} {r : Int} (H : field_Begin.m K x0 x1 = some r)  :
    Fc Tryz.prog 59 #[.agg (cl_api_Screen x0 a21 n23 p22).toArray, iv x1] [rR t_api_Cell .b a21 p22 n23 x0.Cells] B I h (fun v L => v = iv r ∧ L = []) := by
 refine fc_of fun E hs => ?_;unfold field_Begin.m at H;cases hs.nR d0;refine fn_rangeW2 (args := [.agg (cl_api_Screen x0 a21 x0.Cells.length p22).toArray, iv x1]) (rs := [.cell 4 3]) (N := 24) [_, _] Tryz.func59 rfl rfl rfl rfl ?_;refine st 1 [] (k_op (nB hs (cl_api_Screen x0 a21 x0.Cells.length p22) ?_));intro b7 h hs;refine k_op (nA hs [iv 0] (iv 0) ?_);intro b0 h hs;refine st 4 [] (k_op (lB (hs.bl d1) 2 rfl ?_));obtain ⟨c0, H⟩ := guard_pos H;obtain ⟨c1, H⟩ := guard_pos H;refine st 1 [] (k_val (elemPtr a21 (x1.toNat * 6)) (pI (e := 36) (ik := .i64) (hs.sR d2) c0 c1) ?_);refine k_val (elemPtr a21 (x1.toNat * 6 + 0)) (pF (off := 0) (hs.sR d2) c0 c1) ?_;obtain ⟨y0, g0, q0⟩ := (hs.sR d2).toSl.seg c0 c1;obtain rfl := t_api_Cell.open_ q0;refine k_op (lC (seg_cell (f := 0) g0 rfl) ?_);refine k_spl H (fun c4 H => ?_) (fun c4 H => ?_)
 ·refine st 5 [true] (k_op (sB (v := iv x1) hs cw0 ?_));intro h hs;obtain rfl := si H;exact st 1 [] (k_retQ (krF ⟨[iv x1], (.cons (.one (by kernel_rfl) (by kernel_rfl) ((hs.bl d0).cell (off := 0) rfl)) .nil), I, _, ⟨rfl, rfl⟩, hs.pk .n⟩))
 refine st 4 [false] (k_op (lN (hs.bl d1) 0 6 ?_));obtain ⟨hk, bk⟩ := hs.call tk0 .n;refine st 1 [] (k_call H (fun _ m => field_round.calls (a21 := a21) (p22 := p22) (n23 := x0.Cells.length) m hk) ?_);rintro t0 _ h H ⟨I, _, ⟨b4, b5, b6, rfl, rfl, m0⟩, hk⟩;replace hs := bk hk ct3 rfl;refine st 1 [] ?_;obtain ⟨s0, m1, HR0⟩ := bind_some H;clear H;obtain ⟨h1, eh0⟩ : ∃ h', h' = h := ⟨_, rfl⟩;subst eh0;refine k_loopW (range_st (p := 16) (enc := fun (x : Int) => iv x) (hs.pk (.c d5 (.c d4 (.c d3 (.c d0 (.c d0 (.c d0 .n))))))) (fun (pre : List Int) L => ∃ (rest : List Int), t0 = pre ++ rest ∧ (field_Begin.l1.m K x0 rest) = some s0 ∧ L = [rR t_api_Cell .b a21 p22 x0.Cells.length x0.Cells, rB b7 (cl_api_Screen x0 a21 x0.Cells.length p22) 27, rB b0 [iv 0] 3, rB b4 (cl_api_Screen x0 a21 x0.Cells.length p22) 27, rB b5 [iv x1] 3, rB b6 [iv (-1)] 3]) (mkY (fun L => ∃ (x3 : Int), Sum.inl x3 = s0 ∧ L = [rB b0 [iv x3] 3]) (fun _ _ => False)) ⟨t0, rfl, m1, rfl⟩ (by kernel_rfl) (enters_of Tryz.func93 rfl (by kernel_rfl)) (field_round.iter (a := a21) (p := p22) (n := x0.Cells.length) (b1 := b4) (b2 := b5) (b3 := b6) m0) ?_ (fun x => [(5, iv x), (16, iv x)]) ?_ rfl ?_) ?_ ?_ ?_
 ·rintro o pre L I h' ⟨rest, _, _, rfl⟩ hs;exact ⟨(hs.bl d4).seg_ 0 6 (Nat.le_of_ble_eq_true rfl), (hs.bl d4).cell (off := 2) rfl, (hs.bl d5).cell (off := 0) rfl, (hs.bl d6).cell (off := 0) rfl, ⟨_, hs.bdG (k := .b), hs.rd d1⟩, rfl⟩
 ·intro x Q h' q;exact st 3 [] (k_fin2 q)
 ·rintro o pre x2 rest' L I h hx' ⟨rest, hx, H, rfl⟩ hs;obtain rfl : rest = x2 :: rest' := List.append_cancel_left (hx.symm.trans hx');clear hx';obtain ⟨rest, erest⟩ : ∃ r, r = rest' := ⟨_, rfl⟩;subst erest;rw [field_Begin.l1.m] at H;refine st 4 [] (k_op (lB (hs.bl d2) 2 rfl ?_));obtain ⟨c2, H⟩ := guard_pos H;obtain ⟨c3, H⟩ := guard_pos H;refine st 1 [] (k_val (elemPtr a21 (x2.toNat * 6)) (pI (e := 36) (ik := .i64) (hs.sR d1) c2 c3) ?_);refine k_val (elemPtr a21 (x2.toNat * 6 + 0)) (pF (off := 0) (hs.sR d1) c2 c3) ?_;obtain ⟨y1, g1, q1⟩ := (hs.sR d1).toSl.seg c2 c3;obtain rfl := t_api_Cell.open_ q1;refine k_op (lC (seg_cell (f := 0) g1 rfl) ?_);refine k_spl H (fun c5 H => ?_) (fun c5 H => ?_)
  ·refine st 5 [true] (k_op (sB (v := iv x2) (hs.f d3) cw0 ?_));intro h hs;obtain rfl := si H;exact st 1 [] (k_retQ ⟨_, I, ⟨x2, rfl, rfl⟩, hs.pk (.c d1 (.c d0 .n))⟩)
  refine st 4 [false] (k_fin ?_);exact ⟨_, I, ⟨rest, by simp [hx], H, rfl⟩, hs.pk (.c d0 (.c d0 (.c d0 (.c d0 (.c d0 (.c d0 (.c d0 .n)))))))⟩
 ·intro h0 hk;have key : ∃ (o : Obj), ∃ I, Sum.inr () = s0 ∧ St E (rQ h1.size (h1.size + 1) o :: [rB b0 [iv 0] 3]) I h0 := by
    rcases hk with ⟨o, L, I, ⟨rest, hx, H, rfl⟩, hs⟩ | ⟨o, L, I, hy, hs⟩
    · obtain rfl : rest = [] := List.append_cancel_left (hx.symm.trans (List.append_nil _).symm)
      rw [field_Begin.l1.m] at H;obtain rfl := si H;exact ⟨o, I, rfl, hs.pk (.c d0 (.c d2 .n))⟩
    · exact hy.elim
  obtain ⟨o, I, rfl, hs⟩ := key;have H := HR0;try dsimp only at H
  refine st 2 [] (k_op (sB (v := iv (-1)) (hs.f d1) cw0 ?_));intro h hs;refine st 1 [] (k_retQ (krM ?_));obtain rfl := si H;refine ⟨(hs.rqD d1).1, ?_⟩;replace hs := (hs.f d1).rqe;exact ⟨[iv (-1)], (.cons (.one (by kernel_rfl) (by kernel_rfl) ((hs.bl d0).cell (off := 0) rfl)) .nil), I, _, ⟨rfl, rfl⟩, hs.pk .n⟩
 ·rintro h0 ⟨o, L, I, ⟨x3, rfl, rfl⟩, hs⟩;have H := HR0;try dsimp only at H
  obtain rfl := si H;refine ⟨(hs.rqD d0).1, ?_⟩;replace hs := hs.rqe;exact ⟨[iv x3], (.cons (.one (by kernel_rfl) (by kernel_rfl) ((hs.bl d0).cell (off := 0) rfl)) .nil), I, _, ⟨rfl, rfl⟩, hs.pk .n⟩
 intro i L hy;exact hy.elim
def field_Cells.l1.m (K : Nat) (x1 : api_Screen) : Nat → Int → (List Int) → Option ((List Int))
  | 0, _, _ => none
  | k + 1, x0, x2 => (letJ (α := Bool → Option ((List Int))) (fun x3 => (bif x3 then ((app x2 [x0]).bind fun l0 => (field_Cells.l1.m K x1 k (w64 (x0 + 1)) l0)) else (some (x2)))) fun j0 => (if x0 < (x1.Cells.length : Int) then (j0 true) else (j0 false)))
def field_Cells.l2.m (K : Nat) (x2 : api_Screen) : List Int → (List Int) → Option ((List Int))
  | [], x0 => some (x0)
  | x1 :: xs, x0 => (if 0 ≤ x1 then (if x1 < (x2.Cells.length : Int) then (bif (at_ x2.Cells x1).Field then (some (x0)) else ((app x0 [x1]).bind fun l0 => (field_Cells.l2.m K x2 xs l0))) else none) else none)
def field_Cells.m (K : Nat) (x0 : api_Screen) (x1 : Int) : Option (List Int) :=
  ((field_Begin.m K x0 x1).bind fun t0 => (letJ (α := Bool → Option (List Int)) (fun x2 => (bif x2 then ((field_Cells.l1.m K x0 K 0 []).bind fun x3 => (some x3)) else ((field_round.m x0 t0 1).bind fun t1 => ((field_Cells.l2.m K x0 t1 []).bind fun x4 => (some x4))))) fun j0 => (if t0 < 0 then (j0 true) else (j0 false))))
theorem field_Cells.calls {B I : Gh} {h : Heap} {K : Nat} {x0 : api_Screen} {x7 : Int} {a21 : Option Addr} {p22 : Nat} {n23 : Nat} {r : (List Int)} (H : field_Cells.m K x0 x7 = some r)  :
    Fc Tryz.prog 23 #[.agg (cl_api_Screen x0 a21 n23 p22).toArray, iv x7] [rR t_api_Cell .b a21 p22 n23 x0.Cells] B I h (fun v L => ∃ a6 p6 n4, v = .slice a6 n4 p6 ∧ L = [rO (tInt .i64) .i a6 p6 n4 r]) := by
 refine fc_of fun E hs => ?_;unfold field_Cells.m at H;cases hs.nR d0;refine fn_rangeW1 (args := [.agg (cl_api_Screen x0 a21 x0.Cells.length p22).toArray, iv x7]) (rs := [.tmp 4]) (N := 41) [_, _, _, _] Tryz.func23 rfl rfl rfl rfl ?_;refine st 1 [] (k_op (nB hs (cl_api_Screen x0 a21 x0.Cells.length p22) ?_));intro b4 h hs;refine st 3 [] (k_op (nA hs [.slice none 0 0] (.slice none 0 0) ?_));intro b0 h hs;refine st 2 [] (k_op (lN (hs.bl d1) 0 6 ?_));obtain ⟨hk, bk⟩ := hs.call tk0 (.c (qB d2) .n);refine st 1 [] (k_call H (fun _ m => field_Begin.calls m hk) ?_);rintro t0 _ h H ⟨I, _, ⟨rfl, rfl⟩, hk⟩;replace hs := bk hk ct0 rfl;refine st 3 [] (k_jT H hs (fun x8 => [(2, pv b4), (5, pv b0), (6, iv t0), (13, .bool x8)]) ?_ ?_ ?_)
 ·intro j0 H;refine st 2 [] (k_ite H (fun c2 H => ?_) (fun c2 H => ?_))
  ·exact st 1 [] (k_end ⟨true, I, H, ft, hs⟩)
  exact st 1 [] (k_end ⟨false, I, H, ft, hs⟩)
 ·intro ρ h I H hs;refine st 5 [true] (k_op (lB (hs.bl d1) 2 rfl ?_));refine st 4 [] ?_;obtain ⟨s1, m0, HR0⟩ := bind_some H;refine k_loopT hs tl1 0 (fun T k' ρ h => ∃ (x3 : Int) (x5 : List Int), ∃ a2 p2 n2 I, field_Cells.l1.m K x0 k' x3 x5 = some s1 ∧ Fits [(5, pv b0), (16, iv (x0.Cells.length : Int)), (17, iv x3)] ρ ∧ St E (rO (tInt .i64) .i a2 p2 n2 x5 :: rB b0 [.slice a2 n2 p2] 82 :: T) I h) (fun T ρ h => ∃ (x6 : List Int), ∃ a3 p3 n3 I, x6 = s1 ∧ Fits [(5, pv b0)] ρ ∧ St E (rO (tInt .i64) .i a3 p3 n3 x6 :: rB b0 [.slice a3 n3 p3] 82 :: T) I h) K ⟨0, [], none, 0, 0, I, m0, ft, hs.pk (.f imON (.c d0 pk0))⟩ ?_ rfl ?_;rotate_left
  ·rintro ρ h ⟨x6, a3, p3, n3, I, rfl, hf, hs⟩;have H := HR0;try dsimp only at H
   refine k_fits _ hf ?_ rfl;cases hs.nO d0;refine st 2 [] (k_op (lB (hs.bl d1) 0 rfl ?_));obtain rfl := si H;exact st 2 [] (k_retQ (krF ⟨_, by kernel_rfl, I, _, ⟨a3, p3, x6.length, rfl, rfl⟩, hs.pk (.c d0 .n)⟩))
  clear HR0 m0 H;rintro k' ρ h ⟨x3, x5, a2, p2, n2, I, H, hf, hs⟩;cases k' with
  | zero => cases H
  | succ k =>
   rw [field_Cells.l1.m] at H;refine k_fits _ hf ?_ rfl;cases hs.nO d0;refine st 1 [] (k_jF H hs (fun x9 => [(5, pv b0), (16, iv (x0.Cells.length : Int)), (17, iv x3), (18, .bool x9)]) ?_ ?_ ?_)
   ·intro j1 H;refine st 1 [] (k_ite H (fun c3 H => ?_) (fun c3 H => ?_))
    ·exact st 1 [] (k_end ⟨true, I, H, ft, hs⟩)
    exact st 1 [] (k_end ⟨false, I, H, ft, hs⟩)
   ·intro ρ h I H hs;refine st 2 [false] (k_out rfl ?_);obtain rfl := si H;exact xE ⟨x5, a2, p2, x5.length, I, rfl, ft, hs.pk (.c d0 (.c d0 pk0))⟩
   intro ρ h I H hs;refine st 11 [true] (k_op (lB (hs.bl d1) 0 rfl ?_));refine st 1 [] (k_op (nS (e := 3) hs .i (tInt .i64) ([x3] : List Int) [iv x3] 1 (iv 0) (Reps.int (I := (Cl.G .i E.B I)) (k := .i64) (l := [x3])) ?_));intro b8 h hs;replace hs := (hs.f d1);obtain ⟨l0, m1, H⟩ := bind_some H;refine k_op (aO (e := 3) (bytes := 8) hs (hs.sO d1) m1 ?_);intro a4 p4 h hs;refine k_op (sB (v := .slice a4 l0.length p4) (hs.f d2) cw0 ?_);intro h hs;exact st 6 [] (k_endL ⟨k, Nat.lt_succ_self _, (w64 (x3 + 1)), l0, a4, p4, l0.length, I, H, ft, hs.pk (.c d1 (.c d0 pk1))⟩)
 intro ρ h I H hs;refine st 3 [false] (k_op (lN (hs.bl d1) 0 6 ?_));obtain ⟨hk, bk⟩ := hs.call tk0 .n;refine st 1 [] (k_call H (fun _ m => field_round.calls (a21 := a21) (p22 := p22) (n23 := x0.Cells.length) m hk) ?_);rintro t1 _ h H ⟨I, _, ⟨b5, b6, b7, rfl, rfl, m2⟩, hk⟩;replace hs := bk hk ct3 rfl;refine st 1 [] ?_;obtain ⟨s0, m3, HR1⟩ := bind_some H;clear H;obtain ⟨h1, eh0⟩ : ∃ h', h' = h := ⟨_, rfl⟩;subst eh0;refine k_loopW (range_st (p := 29) (enc := fun (x : Int) => iv x) (hs.pk (.c d5 (.c d4 (.f imON (.c d3 (.c d0 (.c d0 (.c d0 .n)))))))) (fun (pre : List Int) L => ∃ (rest : List Int), ∃ (x1 : List Int), ∃ a1 p1 n1, t1 = pre ++ rest ∧ (field_Cells.l2.m K x0 rest x1) = some s0 ∧ L = [rR t_api_Cell .b a21 p22 x0.Cells.length x0.Cells, rB b4 (cl_api_Screen x0 a21 x0.Cells.length p22) 27, rO (tInt .i64) .i a1 p1 n1 x1, rB b0 [.slice a1 n1 p1] 82, rB b5 (cl_api_Screen x0 a21 x0.Cells.length p22) 27, rB b6 [iv t0] 3, rB b7 [iv 1] 3]) (mkY (fun _ => False) (fun i L => i = 2 ∧ ∃ (x2 : List Int), ∃ a0 p0 n0, x2 = s0 ∧ L = [rO (tInt .i64) .i a0 p0 n0 x2, rB b0 [.slice a0 n0 p0] 82])) ⟨t1, [], none, 0, 0, rfl, m3, rfl⟩ (by kernel_rfl) (enters_of Tryz.func93 rfl (by kernel_rfl)) (field_round.iter (a := a21) (p := p22) (n := x0.Cells.length) (b1 := b5) (b2 := b6) (b3 := b7) m2) ?_ (fun x => [(8, iv x), (29, iv x)]) ?_ rfl ?_) ?_ ?_ ?_
 ·rintro o pre L I h' ⟨rest, x1, a1, p1, n1, _, _, rfl⟩ hs;exact ⟨(hs.bl d5).seg_ 0 6 (Nat.le_of_ble_eq_true rfl), (hs.bl d5).cell (off := 2) rfl, (hs.bl d6).cell (off := 0) rfl, (hs.bl d7).cell (off := 0) rfl, ⟨_, hs.bdG (k := .b), hs.rd d1⟩, rfl⟩
 ·intro x Q h' q;exact st 3 [] (k_fin2 q)
 ·rintro o pre x4 rest' L I h hx' ⟨rest, x1, a1, p1, n1, hx, H, rfl⟩ hs;obtain rfl : rest = x4 :: rest' := List.append_cancel_left (hx.symm.trans hx');clear hx';obtain ⟨rest, erest⟩ : ∃ r, r = rest' := ⟨_, rfl⟩;subst erest;rw [field_Cells.l2.m] at H;cases hs.nO d3;refine st 5 [] (k_op (lB (hs.bl d2) 2 rfl ?_));obtain ⟨c0, H⟩ := guard_pos H;obtain ⟨c1, H⟩ := guard_pos H;refine st 1 [] (k_val (elemPtr a21 (x4.toNat * 6)) (pI (e := 36) (ik := .i64) (hs.sR d1) c0 c1) ?_);refine k_val (elemPtr a21 (x4.toNat * 6 + 0)) (pF (off := 0) (hs.sR d1) c0 c1) ?_;obtain ⟨y0, g0, q0⟩ := (hs.sR d1).toSl.seg c0 c1;obtain rfl := t_api_Cell.open_ q0;refine k_op (lC (seg_cell (f := 0) g0 rfl) ?_);refine k_spl H (fun c4 H => ?_) (fun c4 H => ?_)
  ·refine st 2 [true] (k_out rfl ?_);obtain rfl := si H;exact ⟨_, I, ⟨rfl, x1, a1, p1, x1.length, rfl, rfl⟩, hs.pk (.c d0 (.c d2 (.c d2 .n)))⟩
  refine st 4 [false] (k_op (lB (hs.bl d4) 0 rfl ?_));refine st 1 [] (k_op (nS (e := 3) hs .i (tInt .i64) ([x4] : List Int) [iv x4] 1 (iv 0) (Reps.int (I := (Cl.G .i E.B I)) (k := .i64) (l := [x4])) ?_));intro b9 h hs;replace hs := (hs.f d4);obtain ⟨l1, m4, H⟩ := bind_some H;refine k_op (aO (e := 3) (bytes := 8) hs (hs.sO d1) m4 ?_);intro a5 p5 h hs;refine k_op (sB (v := .slice a5 l1.length p5) (hs.f d5) cw0 ?_);intro h hs;refine st 2 [] (k_fin ?_);exact ⟨_, I, ⟨rest, l1, a5, p5, l1.length, by simp [hx], H, rfl⟩, hs.pk (.c d3 (.c d3 (.c d3 (.c d1 (.c d0 (.c d1 (.c d1 (.c d1 .n))))))))⟩
 ·intro h0 hk;have key : ∃ (x2 : List Int), ∃ a0 p0 n0, ∃ (o : Obj), ∃ I, x2 = s0 ∧ St E (rQ h1.size (h1.size + 1) o :: [rO (tInt .i64) .i a0 p0 n0 x2, rB b0 [.slice a0 n0 p0] 82]) I h0 := by
    rcases hk with ⟨o, L, I, ⟨rest, x1, a1, p1, n1, hx, H, rfl⟩, hs⟩ | ⟨o, L, I, hy, hs⟩
    · obtain rfl : rest = [] := List.append_cancel_left (hx.symm.trans (List.append_nil _).symm)
      rw [field_Cells.l2.m] at H;obtain rfl := si H;cases hs.nO d3;exact ⟨x1, a1, p1, x1.length, o, I, rfl, hs.pk (.c d0 (.c d2 (.c d2 .n)))⟩
    · obtain ⟨_, x2, a0, p0, n0, rfl, rfl⟩ := hy
      exact ⟨x2, a0, p0, n0, o, I, rfl, hs⟩
  obtain ⟨x2, a0, p0, n0, o, I, rfl, hs⟩ := key;have H := HR1;try dsimp only at H
  cases hs.nO d1;refine st 2 [] (k_op (lB (hs.bl d2) 0 rfl ?_));refine st 2 [] (k_retQ (krM ?_));obtain rfl := si H;refine ⟨(hs.rqD d0).1, ?_⟩;replace hs := hs.rqe;exact ⟨_, by kernel_rfl, I, _, ⟨a0, p0, x2.length, rfl, rfl⟩, hs.pk (.c d0 .n)⟩
 ·rintro h0 ⟨o, L, I, hy, hs⟩;exact hy.elim
 rintro i L ⟨rfl, _⟩;rfl
end Go.Proofs.YtfkdbplnjlkcdaaGreatDoor.Sx
