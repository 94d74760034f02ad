import Derived.Test.YtjkbhpokboolpaaGreatDoorProg
import Derived.Test.YtjkbhpokboolpaaGreatDoorV4
import Derived.Test.YtjkbhpokboolpaaGreatDoorV5
import Derived.Test.YtjkbhpokboolpaaGreatDoorVF
import Derived.Test.YtjkbhpokboolpaaGreatDoorV6
import Derived.Test.YtjkbhpokboolpaaGreatDoorV7
import Derived.Test.YtjkbhpokboolpaaGreatDoorV9
import Derived.Test.YtjkbhpokboolpaaGreatDoorVD
import Derived.Test.YtjkbhpokboolpaaGreatDoorVC
namespace Go.Proofs.YtjkbhpokboolpaaGreatDoor.Sx
open Go
set_option maxRecDepth 100000
set_option maxHeartbeats 4000000
structure api_Attr where
  Protected : Bool
  Numeric : Bool
  Show : Int
  Modified : Bool
  deriving DecidableEq, Inhabited
structure api_Cell where
  Field : Bool
  Attr : api_Attr
  Char : Int
  deriving DecidableEq, Inhabited
def t_api_Cell : Ty api_Cell where
  size := 6
  rep I h cs x := cs = [.bool x.Field, .bool x.Attr.Protected, .bool x.Attr.Numeric, .int .i64 x.Attr.Show, .bool x.Attr.Modified, .int .u8 x.Char]
  len := by rintro _ _ _ _ rfl; rfl
  one := by
    rintro _ _ _ _ rfl v hv
    simp only [List.mem_cons, List.not_mem_nil, or_false] at hv
    rcases hv with rfl | rfl | rfl | rfl | rfl | rfl
    · exact rfl
    · exact rfl
    · exact rfl
    · exact rfl
    · exact rfl
    · exact rfl
  up := by intro _ _ _ _ _ _ _ e; exact e
theorem t_api_Cell.open_ {I : Gh} {h : Heap} {cs : List Value} {x : api_Cell} (r : t_api_Cell.rep I h cs x) : cs = [.bool x.Field, .bool x.Attr.Protected, .bool x.Attr.Numeric, .int .i64 x.Attr.Show, .bool x.Attr.Modified, .int .u8 x.Char] := r
structure api_Screen where
  Rows : Int
  Cols : Int
  Cells : (List api_Cell)
  Cursor : Int
  Locked : Bool
  Insert : Bool
  deriving DecidableEq, Inhabited
structure api_Pack where
  Ack : Int
  Num : Int
  Last : Bool
  Data : (List Int)
  deriving DecidableEq, Inhabited
def t_api_Pack : Ty api_Pack where
  size := 4
  rep I h cs x := ∃ a_3, ∃ c_3, ∃ n_3, cs = [.int .i64 x.Ack, .int .i64 x.Num, .bool x.Last, .slice a_3 n_3 c_3] ∧ (Rd (tInt .u8) I h a_3 c_3 x.Data ∧ x.Data.length = n_3)
  len := by rintro _ _ _ _ ⟨_, _, _, rfl, _⟩; rfl
  one := by
    rintro _ _ _ _ ⟨e0, e1, e2, rfl, q0⟩ v hv
    simp only [List.mem_cons, List.not_mem_nil, or_false] at hv
    rcases hv with rfl | rfl | rfl | rfl
    · exact rfl
    · exact rfl
    · exact rfl
    · exact rfl
  up := by rintro _ _ _ _ _ _ u ⟨e0, e1, e2, rfl, q0⟩; exact ⟨e0, e1, e2, rfl, ⟨q0.1.up u, q0.2⟩⟩
theorem t_api_Pack.open_ {I : Gh} {h : Heap} {cs : List Value} {x : api_Pack} (r : t_api_Pack.rep I h cs x) : ∃ a_3, ∃ c_3, ∃ n_3, cs = [.int .i64 x.Ack, .int .i64 x.Num, .bool x.Last, .slice a_3 n_3 c_3] ∧ (Rd (tInt .u8) I h a_3 c_3 x.Data ∧ x.Data.length = n_3) := r
structure line_Line where
  queue' : (List api_Pack)
  given' : Int
  await' : Int
  kept' : (List (Int × api_Pack))
  coming' : (List Int)
  wait' : Int
  left' : Int
  owes' : Bool
  deriving DecidableEq, Inhabited
structure api_Seen where
  Top : Int
  Bits : Int
  deriving DecidableEq, Inhabited
structure api_Peer where
  Addr : ByteArray
  Seq : Int
  deriving DecidableEq, Inhabited
structure roam_Gate where
  Key : (List Int)
  Dir : Int
  Seen : api_Seen
  Peer : api_Peer
  deriving DecidableEq, Inhabited
structure side_side where
  key' : (List Int)
  gate' : roam_Gate
  line' : line_Line
  dir' : Int
  seq' : Int
  deriving DecidableEq, Inhabited
structure api_Key where
  Kind : Int
  Char : Int
  deriving DecidableEq, Inhabited
def t_api_Key : Ty api_Key where
  size := 2
  rep I h cs x := cs = [.int .i64 x.Kind, .int .u8 x.Char]
  len := by rintro _ _ _ _ rfl; rfl
  one := by
    rintro _ _ _ _ rfl v hv
    simp only [List.mem_cons, List.not_mem_nil, or_false] at hv
    rcases hv with rfl | rfl
    · exact rfl
    · exact rfl
  up := by intro _ _ _ _ _ _ _ e; exact e
theorem t_api_Key.open_ {I : Gh} {h : Heap} {cs : List Value} {x : api_Key} (r : t_api_Key.rep I h cs x) : cs = [.int .i64 x.Kind, .int .u8 x.Char] := r
structure api_Event where
  Host : Bool
  Key : api_Key
  Code : Int
  Bytes : (List Int)
  deriving DecidableEq, Inhabited
def t_api_Event : Ty api_Event where
  size := 5
  rep I h cs x := ∃ a_3, ∃ c_3, ∃ n_3, cs = [.bool x.Host, .int .i64 x.Key.Kind, .int .u8 x.Key.Char, .int .i64 x.Code, .slice a_3 n_3 c_3] ∧ (Rd (tInt .u8) I h a_3 c_3 x.Bytes ∧ x.Bytes.length = n_3)
  len := by rintro _ _ _ _ ⟨_, _, _, rfl, _⟩; rfl
  one := by
    rintro _ _ _ _ ⟨e0, e1, e2, rfl, q0⟩ v hv
    simp only [List.mem_cons, List.not_mem_nil, or_false] at hv
    rcases hv with rfl | rfl | rfl | rfl | rfl
    · exact rfl
    · exact rfl
    · exact rfl
    · exact rfl
    · exact rfl
  up := by rintro _ _ _ _ _ _ u ⟨e0, e1, e2, rfl, q0⟩; exact ⟨e0, e1, e2, rfl, ⟨q0.1.up u, q0.2⟩⟩
theorem t_api_Event.open_ {I : Gh} {h : Heap} {cs : List Value} {x : api_Event} (r : t_api_Event.rep I h cs x) : ∃ a_3, ∃ c_3, ∃ n_3, cs = [.bool x.Host, .int .i64 x.Key.Kind, .int .u8 x.Key.Char, .int .i64 x.Code, .slice a_3 n_3 c_3] ∧ (Rd (tInt .u8) I h a_3 c_3 x.Bytes ∧ x.Bytes.length = n_3) := r
structure side_Client where
  side' : side_side
  s' : api_Screen
  todo' : (List (List Int))
  sent' : (List (List Int))
  events' : (List api_Event)
  deriving DecidableEq, Inhabited
structure side_Host where
  side' : side_side
  got' : (List (List Int))
  deriving DecidableEq, Inhabited
structure api_Entry where
  Addr : Int
  Text : (List Int)
  deriving DecidableEq, Inhabited
def t_api_Entry : Ty api_Entry where
  size := 2
  rep I h cs x := ∃ a_1, ∃ c_1, ∃ n_1, cs = [.int .i64 x.Addr, .slice a_1 n_1 c_1] ∧ (Rd (tInt .u8) I h a_1 c_1 x.Text ∧ x.Text.length = n_1)
  len := by rintro _ _ _ _ ⟨_, _, _, rfl, _⟩; rfl
  one := by
    rintro _ _ _ _ ⟨e0, e1, e2, rfl, q0⟩ v hv
    simp only [List.mem_cons, List.not_mem_nil, or_false] at hv
    rcases hv with rfl | rfl
    · exact rfl
    · exact rfl
  up := by rintro _ _ _ _ _ _ u ⟨e0, e1, e2, rfl, q0⟩; exact ⟨e0, e1, e2, rfl, ⟨q0.1.up u, q0.2⟩⟩
theorem t_api_Entry.open_ {I : Gh} {h : Heap} {cs : List Value} {x : api_Entry} (r : t_api_Entry.rep I h cs x) : ∃ a_1, ∃ c_1, ∃ n_1, cs = [.int .i64 x.Addr, .slice a_1 n_1 c_1] ∧ (Rd (tInt .u8) I h a_1 c_1 x.Text ∧ x.Text.length = n_1) := r
structure api_In where
  Aid : Int
  Cursor : Int
  Fields : (List api_Entry)
  deriving DecidableEq, Inhabited
structure api_Order where
  Kind : Int
  Text : (List Int)
  Attr : api_Attr
  Addr : Int
  Char : Int
  deriving DecidableEq, Inhabited
def t_api_Order : Ty api_Order where
  size := 8
  rep I h cs x := ∃ a_1, ∃ c_1, ∃ n_1, cs = [.int .i64 x.Kind, .slice a_1 n_1 c_1, .bool x.Attr.Protected, .bool x.Attr.Numeric, .int .i64 x.Attr.Show, .bool x.Attr.Modified, .int .i64 x.Addr, .int .u8 x.Char] ∧ (Rd (tInt .u8) I h a_1 c_1 x.Text ∧ x.Text.length = n_1)
  len := by rintro _ _ _ _ ⟨_, _, _, rfl, _⟩; rfl
  one := by
    rintro _ _ _ _ ⟨e0, e1, e2, rfl, q0⟩ v hv
    simp only [List.mem_cons, List.not_mem_nil, or_false] at hv
    rcases hv with rfl | rfl | rfl | rfl | rfl | rfl | rfl | rfl
    · exact rfl
    · exact rfl
    · exact rfl
    · exact rfl
    · exact rfl
    · exact rfl
    · exact rfl
    · exact rfl
  up := by rintro _ _ _ _ _ _ u ⟨e0, e1, e2, rfl, q0⟩; exact ⟨e0, e1, e2, rfl, ⟨q0.1.up u, q0.2⟩⟩
structure api_Wcc where
  Alarm : Bool
  Unlock : Bool
  Reset : Bool
  deriving DecidableEq, Inhabited
structure api_Out where
  Cmd : Int
  Wcc : api_Wcc
  Orders : (List api_Order)
  deriving DecidableEq, Inhabited
structure shutterref25_Terminal where
  S : api_Screen
  Sent : (List (List Int))
  deriving DecidableEq, Inhabited
structure bytes_Cursor where
  b' : (List Int)
  at' : Int
  err' : GoErr
  deriving DecidableEq, Inhabited
structure hash_Sum where
  h' : (List Int)
  rest' : (List Int)
  n' : Int
  deriving DecidableEq, Inhabited
structure api_Frame where
  Dir : Int
  Seq : Int
  Body : (List Int)
  deriving DecidableEq, Inhabited
abbrev cl_api_Attr (x : api_Attr) : List Value := [.bool x.Protected, .bool x.Numeric, .int .i64 x.Show, .bool x.Modified]
abbrev cl_api_Cell (x : api_Cell) : List Value := [.bool x.Field, .bool x.Attr.Protected, .bool x.Attr.Numeric, .int .i64 x.Attr.Show, .bool x.Attr.Modified, .int .u8 x.Char]
abbrev cl_api_Screen (x : api_Screen) (a2 : Option Addr) (n2 p2 : Nat) : List Value := [.int .i64 x.Rows, .int .i64 x.Cols, .slice a2 n2 p2, .int .i64 x.Cursor, .bool x.Locked, .bool x.Insert]
abbrev cl_api_Pack (x : api_Pack) (a3 : Option Addr) (n3 p3 : Nat) : List Value := [.int .i64 x.Ack, .int .i64 x.Num, .bool x.Last, .slice a3 n3 p3]
abbrev cl_roam_Gate (x : roam_Gate) (a0 : Option Addr) (n0 p0 : Nat) : List Value := [.slice a0 n0 p0, .int .i64 x.Dir, .int .i64 x.Seen.Top, .int .u64 x.Seen.Bits, .string x.Peer.Addr, .int .i64 x.Peer.Seq]
abbrev cl_side_side (x : side_side) (a0 : Option Addr) (n0 p0 : Nat) (a1 : Option Addr) (n1 p1 : Nat) (b7 : Nat) : List Value := [.slice a0 n0 p0, .slice a1 n1 p1, .int .i64 x.gate'.Dir, .int .i64 x.gate'.Seen.Top, .int .u64 x.gate'.Seen.Bits, .string x.gate'.Peer.Addr, .int .i64 x.gate'.Peer.Seq, pv b7, .int .i64 x.dir', .int .i64 x.seq']
abbrev cl_side_Client (x : side_Client) (a0 : Option Addr) (n0 p0 : Nat) (a1 : Option Addr) (n1 p1 : Nat) (b7 : Nat) (a12 : Option Addr) (n12 p12 : Nat) (a16 : Option Addr) (n16 p16 : Nat) (a17 : Option Addr) (n17 p17 : Nat) (a18 : Option Addr) (n18 p18 : Nat) : List Value := [.slice a0 n0 p0, .slice a1 n1 p1, .int .i64 x.side'.gate'.Dir, .int .i64 x.side'.gate'.Seen.Top, .int .u64 x.side'.gate'.Seen.Bits, .string x.side'.gate'.Peer.Addr, .int .i64 x.side'.gate'.Peer.Seq, pv b7, .int .i64 x.side'.dir', .int .i64 x.side'.seq', .int .i64 x.s'.Rows, .int .i64 x.s'.Cols, .slice a12 n12 p12, .int .i64 x.s'.Cursor, .bool x.s'.Locked, .bool x.s'.Insert, .slice a16 n16 p16, .slice a17 n17 p17, .slice a18 n18 p18]
abbrev cl_side_Host (x : side_Host) (a0 : Option Addr) (n0 p0 : Nat) (a1 : Option Addr) (n1 p1 : Nat) (b7 : Nat) (a10 : Option Addr) (n10 p10 : Nat) : List Value := [.slice a0 n0 p0, .slice a1 n1 p1, .int .i64 x.side'.gate'.Dir, .int .i64 x.side'.gate'.Seen.Top, .int .u64 x.side'.gate'.Seen.Bits, .string x.side'.gate'.Peer.Addr, .int .i64 x.side'.gate'.Peer.Seq, pv b7, .int .i64 x.side'.dir', .int .i64 x.side'.seq', .slice a10 n10 p10]
abbrev cl_api_Out (x : api_Out) (a4 : Option Addr) (n4 p4 : Nat) : List Value := [.int .i64 x.Cmd, .bool x.Wcc.Alarm, .bool x.Wcc.Unlock, .bool x.Wcc.Reset, .slice a4 n4 p4]
abbrev cl_shutterref25_Terminal (x : shutterref25_Terminal) (a2 : Option Addr) (n2 p2 : Nat) (a6 : Option Addr) (n6 p6 : Nat) : List Value := [.int .i64 x.S.Rows, .int .i64 x.S.Cols, .slice a2 n2 p2, .int .i64 x.S.Cursor, .bool x.S.Locked, .bool x.S.Insert, .slice a6 n6 p6]
def grid_New.m (x0 : Int) (x1 : Int) : Option (api_Screen × GoErr) :=
  (if x0 < 1 then none else (if x1 < 1 then none else (if x0 > 16383 then none else (if x0 ≠ 0 then (if x1 > (w64 (Int.tdiv 16383 x0)) then none else ((mk (w64 (x0 * x1)) (⟨false, (⟨false, false, 0, false⟩ : api_Attr), 0⟩ : api_Cell)).bind fun l0 => (some ((⟨x0, x1, l0, 0, false, false⟩ : api_Screen), GoErr.nil)))) else none))))
theorem grid_New.calls {B I : Gh} {h : Heap} {x0 : Int} {x1 : Int} {r : (api_Screen × GoErr)} (H : grid_New.m x0 x1 = some r)  :
    Fc Tryz.prog 76 #[iv x0, iv x1] [] B I h (fun v L => ∃ a0 p0 n0 v0, v = .tuple #[.agg (cl_api_Screen r.1 a0 n0 p0).toArray, v0] ∧ L = [rO t_api_Cell .i a0 p0 n0 r.1.Cells, rE .i v0 r.2]) := by
 refine fc_of fun E hs => ?_;unfold grid_New.m at H;refine fn_of2 (rs := [.cell 4 56, .tmp 5]) (N := 31) Tryz.func76 rfl rfl rfl rfl ?_;refine st 2 [] (k_op (nA hs [iv 0, iv 0, .slice none 0 0, iv 0, .bool false, .bool false] (.agg #[iv 0, iv 0, .slice none 0 0, iv 0, .bool false, .bool false]) ?_));intro b1 h hs;refine st 6 [] (k_ite H (fun c0 H => ?_) (fun c0 H => ?_))
 ·cases H
 refine st 2 [] (k_ite H (fun c1 H => ?_) (fun c1 H => ?_))
 ·cases H
 refine st 3 [] (k_ite H (fun c2 H => ?_) (fun c2 H => ?_))
 ·cases H
 obtain ⟨c3, H⟩ := guard_pos H;refine st 4 [] (k_val (iv (w64 (Int.tdiv 16383 x0))) (pr_quo (k := .i64) (a := 16383) (b := x0) (by kernel_rfl) (by kernel_rfl) c3) ?_);refine k_ite H (fun c4 H => ?_) (fun c4 H => ?_)
 ·cases H
 obtain ⟨l0, m0, H⟩ := bind_some H;refine st 11 [false] (k_op (nM (e := 89) (kl := .i64) (kc := .i64) (bytes := 40) hs t_api_Cell (⟨false, (⟨false, false, 0, false⟩ : api_Attr), 0⟩ : api_Cell) (.agg #[.bool false, .bool false, .bool false, iv 0, .bool false, .int .u8 0]) m0 (fun _ _ => rfl) ?_));intro b0 h hs;refine st 1 [] (k_op (sN0 (hs.f d1) [iv x0, iv x1, .slice (sa b0) l0.length l0.length, iv 0, .bool false, .bool false] (ones_of rfl) ?_));intro h hs;obtain rfl := si H;exact st 2 [] (k_retQ ⟨[.agg #[iv x0, iv x1, .slice (sa b0) l0.length l0.length, iv 0, .bool false, .bool false], .nilIface], (.cons (.agg (by kernel_rfl) (by kernel_rfl) (by kernel_rfl) ((hs.bl d0).seg_ 0 6 (Nat.le_of_ble_eq_true rfl))) (.cons (.tmp (by kernel_rfl)) .nil)), I, _, ⟨(sa b0), l0.length, l0.length, (.nilIface), rfl, rfl⟩, hs.pk (.c d1 (.f imEN .n))⟩)
def grid_Size.m (x0 : api_Screen) : Option Int :=
  (some (x0.Cells.length : Int))
theorem grid_Size.calls {B I : Gh} {h : Heap} {x0 : api_Screen} {a0 : Option Addr} {p0 : Nat} {n0 : Nat} {r : Int} (H : grid_Size.m x0 = some r)  :
    Fc Tryz.prog 77 #[.agg (cl_api_Screen x0 a0 n0 p0).toArray] [rR t_api_Cell .b a0 p0 n0 x0.Cells] B I h (fun v L => v = iv r ∧ L = []) := by
 refine fc_of fun E hs => ?_;unfold grid_Size.m at H;cases hs.nR d0;refine fn_of (rs := [.tmp 2]) (N := 6) Tryz.func77 rfl rfl rfl rfl ?_;refine st 2 [] (k_op (nB hs (cl_api_Screen x0 a0 x0.Cells.length p0) ?_));intro b0 h hs;refine st 5 [] (k_op (lB (hs.bl d0) 2 rfl ?_));obtain rfl := si H;exact st 3 [] (k_retQ ⟨_, by kernel_rfl, I, _, ⟨rfl, rfl⟩, hs.pk .n⟩)
def line_New.m  : Option line_Line :=
  (some (⟨[], 0, 1, [], [], 1, 0, false⟩ : line_Line))
theorem line_New.calls {B I : Gh} {h : Heap}  {r : line_Line} (H : line_New.m  = some r)  :
    Fc Tryz.prog 128 #[] [] B I h (fun v L => ∃ b1 a0 p0 n0 b2 a1 p1 n1, v = pv b1 ∧ L = [rB b1 [.slice a0 n0 p0, iv r.given', iv r.await', .map (some b2), .slice a1 n1 p1, iv r.wait', iv r.left', .bool r.owes'] 239, rO t_api_Pack .i a0 p0 n0 r.queue', rM t_api_Pack b2 r.kept', rO (tInt .u8) .i a1 p1 n1 r.coming']) := by
 refine fc_of fun E hs => ?_;unfold line_New.m at H;refine fn_of (rs := [.tmp 0]) (N := 4) Tryz.func128 rfl rfl rfl rfl ?_;refine st 6 [] (k_op (mN t_api_Pack hs ?_));intro b0 h hs;refine st 1 [] (k_op (nB hs [.slice none 0 0, iv 0, iv 1, .map (some b0), .slice none 0 0, iv 1, iv 0, .bool false] ?_));intro b3 h hs;obtain rfl := si H;exact st 2 [] (k_retQ ⟨_, by kernel_rfl, I, _, ⟨b3, none, 0, 0, b0, none, 0, 0, rfl, rfl⟩, hs.pk (.c d0 (.f imON (.c d0 (.f imON .n))))⟩)
def slices_Clone_bytes.m (x0 : (List Int)) : Option (List Int) :=
  ((app [] x0).bind fun l0 => (some l0))
theorem slices_Clone_bytes.calls {B I : Gh} {h : Heap} {x0 : (List Int)} {a0 : Option Addr} {p0 : Nat} {n0 : Nat} {r : (List Int)} (H : slices_Clone_bytes.m x0 = some r)  :
    Fc Tryz.prog 83 #[.slice a0 n0 p0] [rR (tInt .u8) .b a0 p0 n0 x0] B I h (fun v L => ∃ a1 p1 n1, v = .slice a1 n1 p1 ∧ L = [rO (tInt .u8) .i a1 p1 n1 r]) := by
 refine fc_of fun E hs => ?_;unfold slices_Clone_bytes.m at H;cases hs.nR d0;refine fn_of (rs := [.tmp 2]) (N := 8) Tryz.func83 rfl rfl rfl rfl ?_;rcases a0 with _ | ad0
 ·have e0 := ((hs.sR d0).toSl.nil rfl).1;replace H : (some []) = some r := by simpa [app, Lim, e0] using H
  obtain rfl := si H;exact st 15 [true] (k_retQ ⟨_, by kernel_rfl, I, _, ⟨none, 0, 0, rfl, rfl⟩, hs.pk (.f imON .n)⟩)
 refine st 14 [false] (k_op (nS (e := 5) hs .i (tInt .u8) ([] : List Int) [] 1 (.int .u8 0) (Reps.int (I := (Cl.G .i E.B I)) (k := .u8) (l := [])) ?_));intro b0 h hs;obtain ⟨l0, m0, H⟩ := bind_some H;refine st 1 [] (k_op (aO (e := 5) (bytes := 1) hs ((hs.sR d1).flat flat_int) m0 ?_));intro a2 p2 h hs;obtain rfl := si H;exact st 2 [] (k_retQ ⟨_, by kernel_rfl, I, _, ⟨a2, p2, l0.length, rfl, rfl⟩, hs.pk (.c d0 .n)⟩)
def side_made.m (x1 : (List Int)) (x0 : Int) : Option side_side :=
  ((slices_Clone_bytes.m x1).bind fun t0 => ((line_New.m ).bind fun t1 => (some (⟨t0, (⟨t0, (w64 (1 - x0)), (⟨0, 0⟩ : api_Seen), (⟨(⟨#[]⟩ : ByteArray), 0⟩ : api_Peer)⟩ : roam_Gate), t1, x0, 0⟩ : side_side))))
theorem side_made.calls {B I : Gh} {h : Heap} {x1 : (List Int)} {x0 : Int} {a1 : Option Addr} {p1 : Nat} {n0 : Nat} {r : side_side} (H : side_made.m x1 x0 = some r)  :
    Fc Tryz.prog 78 #[.slice a1 n0 p1, iv x0] [rR (tInt .u8) .b a1 p1 n0 x1] B I h (fun v L => ∃ a2 p2 n1 a3 p3 n2 b1 a4 p4 n3 b2 a5 p5 n4, v = .agg (cl_side_side r a2 n1 p2 a3 n2 p3 b1).toArray ∧ L = [rR (tInt .u8) .i a2 p2 n1 r.key', rR (tInt .u8) .i a3 p3 n2 r.gate'.Key, rB b1 [.slice a4 n3 p4, iv r.line'.given', iv r.line'.await', .map (some b2), .slice a5 n4 p5, iv r.line'.wait', iv r.line'.left', .bool r.line'.owes'] 239, rO t_api_Pack .i a4 p4 n3 r.line'.queue', rM t_api_Pack b2 r.line'.kept', rO (tInt .u8) .i a5 p5 n4 r.line'.coming']) := by
 refine fc_of fun E hs => ?_;unfold side_made.m at H;cases hs.nR d0;refine fn_of2 (rs := [.cell 4 76]) (N := 16) Tryz.func78 rfl rfl rfl rfl ?_;refine st 2 [] (k_op (nA hs [.slice none 0 0, .slice none 0 0, iv 0, iv 0, .int .u64 0, .string (⟨#[]⟩ : ByteArray), iv 0, .pointer none, iv 0, iv 0] (.agg #[.slice none 0 0, .slice none 0 0, iv 0, iv 0, .int .u64 0, .string (⟨#[]⟩ : ByteArray), iv 0, .pointer none, iv 0, iv 0]) ?_));intro b4 h hs;obtain ⟨hk, bk⟩ := hs.call tk0 (.c (qB d1) .n);refine st 4 [] (k_call H (fun _ m => slices_Clone_bytes.calls m hk) ?_);rintro t0 _ h H ⟨I, _, ⟨a0, p0, n5, rfl, rfl⟩, hk⟩;replace hs := bk hk ct1 rfl;cases hs.nO d0;obtain ⟨hk, bk⟩ := hs.call tk0 .n;refine st 9 [] (k_call H (fun _ m => line_New.calls m hk) ?_);rintro t1 _ h H ⟨I, _, ⟨b0, a6, p6, n6, b3, a7, p7, n7, rfl, rfl⟩, hk⟩;replace hs := bk hk ct4 rfl;cases hs.nO d1;cases hs.nO d3;refine st 2 [] (k_op (sN0 (hs.f d5) [.slice a0 t0.length p0, .slice a0 t0.length p0, iv (w64 (1 - x0)), iv 0, .int .u64 0, .string (⟨#[]⟩ : ByteArray), iv 0, pv b0, iv x0, iv 0] (ones_of rfl) ?_));intro h hs;refine st 1 [] ?_;obtain ⟨I, hs⟩ := (hs.f d5).fO;replace hs := hs.dup d0 (fun _ x => x);obtain rfl := si H;exact k_retQ ⟨[.agg #[.slice a0 t0.length p0, .slice a0 t0.length p0, iv (w64 (1 - x0)), iv 0, .int .u64 0, .string (⟨#[]⟩ : ByteArray), iv 0, pv b0, iv x0, iv 0]], (.cons (.agg (by kernel_rfl) (by kernel_rfl) (by kernel_rfl) ((hs.bl d2).seg_ 0 10 (Nat.le_of_ble_eq_true rfl))) .nil), I, _, ⟨a0, p0, t0.length, a0, p0, t0.length, b0, a6, p6, t1.queue'.length, b3, a7, p7, t1.coming'.length, rfl, rfl⟩, hs.pk (.c d1 (.c d0 (.c d1 (.c d1 (.c d1 (.c d1 .n))))))⟩
def side_NewClient.m (x0 : (List Int)) (x1 : Int) (x2 : Int) : Option (side_Client × GoErr) :=
  ((grid_New.m x1 x2).bind fun t0 => (if t0.2 = GoErr.nil then ((grid_Size.m t0.1).bind fun t1 => (if t1 > 2000 then none else ((side_made.m x0 0).bind fun t2 => (some ((⟨t2, t0.1, [], [], []⟩ : side_Client), GoErr.nil))))) else none))
theorem side_NewClient.calls {B I : Gh} {h : Heap} {x0 : (List Int)} {x1 : Int} {x2 : Int} {a1 : Option Addr} {p1 : Nat} {n0 : Nat} {r : (side_Client × GoErr)} (H : side_NewClient.m x0 x1 x2 = some r)  :
    Fc Tryz.prog 22 #[.slice a1 n0 p1, iv x1, iv x2] [rR (tInt .u8) .b a1 p1 n0 x0] B I h (fun v L => ∃ b1 a4 p4 n1 a5 p64 n2 b2 a6 p5 n3 b3 a7 p6 n4 a8 p7 n5 a9 p8 n6 aB p9 n7 aC pA n8 v0, v = .tuple #[pv b1, v0] ∧ L = [rB b1 (cl_side_Client r.1 a4 n1 p4 a5 n2 p64 b2 a8 n5 p7 a9 n6 p8 aB n7 p9 aC n8 pA) 78, rR (tInt .u8) .i a4 p4 n1 r.1.side'.key', rR (tInt .u8) .i a5 p64 n2 r.1.side'.gate'.Key, rB b2 [.slice a6 n3 p5, iv r.1.side'.line'.given', iv r.1.side'.line'.await', .map (some b3), .slice a7 n4 p6, iv r.1.side'.line'.wait', iv r.1.side'.line'.left', .bool r.1.side'.line'.owes'] 239, rO t_api_Pack .i a6 p5 n3 r.1.side'.line'.queue', rM t_api_Pack b3 r.1.side'.line'.kept', rO (tInt .u8) .i a7 p6 n4 r.1.side'.line'.coming', rR t_api_Cell .i a8 p7 n5 r.1.s'.Cells, rO (tSl (tInt .u8)) .i a9 p8 n6 r.1.todo', rO (tSl (tInt .u8)) .i aB p9 n7 r.1.sent', rO t_api_Event .i aC pA n8 r.1.events', rE .i v0 r.2]) := by
 refine fc_of fun E hs => ?_;unfold side_NewClient.m at H;cases hs.nR d0;refine fn_of (rs := [.tmp 6, .tmp 7]) (N := 29) Tryz.func22 rfl rfl rfl rfl ?_;obtain ⟨hk, bk⟩ := hs.call tk0 .n;refine st 9 [] (k_call H (fun _ m => grid_New.calls m hk) ?_);rintro t1 _ h H ⟨I, _, ⟨a0, p0, n9, v1, rfl, rfl⟩, hk⟩;replace hs := bk hk ct2 rfl;cases hs.nO d0;refine st 3 [] (k_op (nA hs [iv 0, iv 0, .slice none 0 0, iv 0, .bool false, .bool false] (.agg #[iv 0, iv 0, .slice none 0 0, iv 0, .bool false, .bool false]) ?_));intro b6 h hs;refine k_op (sN0 hs (cl_api_Screen t1.1 a0 t1.1.Cells.length p0) (ones_of rfl) ?_);intro h hs;rcases (hs.er d2).cases with ⟨c0, rfl⟩ | ⟨c0, t2, u0, rfl⟩;rotate_left
 ·rw [if_neg c0] at H;cases H
 rw [if_pos c0] at H;refine st 8 [] (k_op (lN (hs.bl d0) 0 6 ?_));obtain ⟨hk, bk⟩ := hs.call tk0 (.c (qO d1) .n);refine k_call H (fun _ m => grid_Size.calls m hk) ?_;rintro t3 _ h H ⟨I, _, ⟨rfl, rfl⟩, hk⟩;replace hs := bk hk ct0 rfl;refine k_ite H (fun c1 H => ?_) (fun c1 H => ?_)
 ·cases H
 refine st 5 [false] ?_;obtain ⟨hs0, bk0⟩ := hs.call tk0 (.c (qL d0) (.c (qB d3) .n));have hs := hs0;refine k_regD hs0 7 ?_;refine aRun [0] 6 hs.keep ?_;refine aG 2 rfl hs.keep (lls hs0 d0 0 6 rfl) (nmL hs0 d0) ?_;obtain ⟨hk, bk⟩ := hs.call tk0 (.c (qB d1) .n);refine aO1 1 rfl (o_call H (fun _ m => side_made.calls m hk) ?_);rintro t0 _ h H ⟨I, _, ⟨a2, p2, nC, a3, p3, nD, b0, aD, pB, nE, b4, aE, pC, nF, rfl, rfl⟩, hk⟩;replace hs := bk hk ct6 rfl;cases hs.nR d0;cases hs.nR d1;cases hs.nO d3;cases hs.nO d5;refine ⟨hs.keep, ?_⟩;refine aRun [3] 3 hs.keep ?_;refine aO1 4 rfl (nB hs [.slice a2 t0.key'.length p2, .slice a3 t0.gate'.Key.length p3, iv t0.gate'.Dir, iv t0.gate'.Seen.Top, .int .u64 t0.gate'.Seen.Bits, .string t0.gate'.Peer.Addr, iv t0.gate'.Peer.Seq, pv b0, iv t0.dir', iv t0.seq', iv t1.1.Rows, iv t1.1.Cols, .slice a0 t1.1.Cells.length p0, iv t1.1.Cursor, .bool t1.1.Locked, .bool t1.1.Insert, .slice none 0 0, .slice none 0 0, .slice none 0 0] ?_);intro b5 h hs;refine ⟨hs.keep, ?_⟩;refine aRun [5, 6] 0 hs.keep ?_;replace hs := hs.pk (.c d0 (.c d0 (.c d0 (.c d0 (.c d0 (.c d0 (.c d0 .n)))))));replace hs := bk0 hs (.s ct6) rfl;refine aEnd ?_;obtain rfl := si H;obtain ⟨I, hs⟩ := (hs.f d8).fO;exact k_retQ ⟨_, by kernel_rfl, I, _, ⟨b5, a2, p2, t0.key'.length, a3, p3, t0.gate'.Key.length, b0, aD, pB, t0.line'.queue'.length, b4, aE, pC, t0.line'.coming'.length, a0, p0, t1.1.Cells.length, none, 0, 0, none, 0, 0, none, 0, 0, (.nilIface), rfl, rfl⟩, hs.pk (.c d1 (.c d1 (.c d1 (.c d1 (.c d1 (.c d1 (.c d1 (.c d0 (.f imON (.f imON (.f imON (.f imEN .n))))))))))))⟩
def side_NewHost.m (x0 : (List Int)) : Option side_Host :=
  ((side_made.m x0 1).bind fun t0 => (some (⟨t0, []⟩ : side_Host)))
theorem side_NewHost.calls {B I : Gh} {h : Heap} {x0 : (List Int)} {a0 : Option Addr} {p0 : Nat} {n0 : Nat} {r : side_Host} (H : side_NewHost.m x0 = some r)  :
    Fc Tryz.prog 79 #[.slice a0 n0 p0] [rR (tInt .u8) .b a0 p0 n0 x0] B I h (fun v L => ∃ b1 a3 p3 n1 a4 p4 n2 b2 a5 p5 n3 b3 a6 p6 n4 a7 p7 n5, v = pv b1 ∧ L = [rB b1 (cl_side_Host r a3 n1 p3 a4 n2 p4 b2 a7 n5 p7) 118, rR (tInt .u8) .i a3 p3 n1 r.side'.key', rR (tInt .u8) .i a4 p4 n2 r.side'.gate'.Key, rB b2 [.slice a5 n3 p5, iv r.side'.line'.given', iv r.side'.line'.await', .map (some b3), .slice a6 n4 p6, iv r.side'.line'.wait', iv r.side'.line'.left', .bool r.side'.line'.owes'] 239, rO t_api_Pack .i a5 p5 n3 r.side'.line'.queue', rM t_api_Pack b3 r.side'.line'.kept', rO (tInt .u8) .i a6 p6 n4 r.side'.line'.coming', rO (tSl (tInt .u8)) .i a7 p7 n5 r.got']) := by
 refine fc_of fun E hs => ?_;unfold side_NewHost.m at H;cases hs.nR d0;refine fn_of (rs := [.tmp 2]) (N := 7) Tryz.func79 rfl rfl rfl rfl ?_;obtain ⟨hk, bk⟩ := hs.call tk0 (.c (qB d0) .n);refine st 7 [] (k_call H (fun _ m => side_made.calls m hk) ?_);rintro t0 _ h H ⟨I, _, ⟨a1, p1, n6, a2, p2, n7, b0, a8, p8, n8, b4, a9, p9, n9, rfl, rfl⟩, hk⟩;replace hs := bk hk ct6 rfl;cases hs.nR d0;cases hs.nR d1;cases hs.nO d3;cases hs.nO d5;refine st 1 [] (k_op (nB hs [.slice a1 t0.key'.length p1, .slice a2 t0.gate'.Key.length p2, iv t0.gate'.Dir, iv t0.gate'.Seen.Top, .int .u64 t0.gate'.Seen.Bits, .string t0.gate'.Peer.Addr, iv t0.gate'.Peer.Seq, pv b0, iv t0.dir', iv t0.seq', .slice none 0 0] ?_));intro b5 h hs;obtain rfl := si H;exact st 2 [] (k_retQ ⟨_, by kernel_rfl, I, _, ⟨b5, a1, p1, t0.key'.length, a2, p2, t0.gate'.Key.length, b0, a8, p8, t0.line'.queue'.length, b4, a9, p9, t0.line'.coming'.length, none, 0, 0, rfl, rfl⟩, hs.pk (.c d0 (.c d0 (.c d0 (.c d0 (.c d0 (.c d0 (.c d0 (.f imON .n))))))))⟩)
def shutterlaw25_pair.m (x0 : (List Int)) (x1 : Int) (x2 : Int) : Option (side_Client × side_Host × Bool) :=
  ((side_NewClient.m x0 x1 x2).bind fun t0 => ((side_NewHost.m x0).bind fun t1 => (if t0.2 = GoErr.nil then (some (t0.1, t1, true)) else none)))
theorem shutterlaw25_pair.calls {B I : Gh} {h : Heap} {x0 : (List Int)} {x1 : Int} {x2 : Int} {aC : Option Addr} {pB : Nat} {nD : Nat} {r : (side_Client × side_Host × Bool)} (H : shutterlaw25_pair.m x0 x1 x2 = some r)  :
    Fc Tryz.prog 32 #[.slice aC nD pB, iv x1, iv x2] [rR (tInt .u8) .b aC pB nD x0] B I h (fun v L => ∃ b4 aD pC nE aE pD nF b5 a0 p0 n0 b0 a1 p1 n1 a2 p2 n2 a3 p3 n3 a4 p4 n4 a5 p5 n5 b1 a6 p6 n6 a7 p7 n7 b2 a8 p8 n8 b3 a9 p9 n9 aB pA nC, v = .tuple #[pv b4, pv b1, .bool r.2.2] ∧ L = [rB b4 (cl_side_Client r.1 aD nE pC aE nF pD b5 a2 n2 p2 a3 n3 p3 a4 n4 p4 a5 n5 p5) 78, rR (tInt .u8) .i aD pC nE r.1.side'.key', rR (tInt .u8) .i aE pD nF r.1.side'.gate'.Key, rB b5 [.slice a0 n0 p0, iv r.1.side'.line'.given', iv r.1.side'.line'.await', .map (some b0), .slice a1 n1 p1, iv r.1.side'.line'.wait', iv r.1.side'.line'.left', .bool r.1.side'.line'.owes'] 239, rO t_api_Pack .i a0 p0 n0 r.1.side'.line'.queue', rM t_api_Pack b0 r.1.side'.line'.kept', rO (tInt .u8) .i a1 p1 n1 r.1.side'.line'.coming', rR t_api_Cell .i a2 p2 n2 r.1.s'.Cells, rO (tSl (tInt .u8)) .i a3 p3 n3 r.1.todo', rO (tSl (tInt .u8)) .i a4 p4 n4 r.1.sent', rO t_api_Event .i a5 p5 n5 r.1.events', rB b1 (cl_side_Host r.2.1 a6 n6 p6 a7 n7 p7 b2 aB nC pA) 118, rR (tInt .u8) .i a6 p6 n6 r.2.1.side'.key', rR (tInt .u8) .i a7 p7 n7 r.2.1.side'.gate'.Key, rB b2 [.slice a8 n8 p8, iv r.2.1.side'.line'.given', iv r.2.1.side'.line'.await', .map (some b3), .slice a9 n9 p9, iv r.2.1.side'.line'.wait', iv r.2.1.side'.line'.left', .bool r.2.1.side'.line'.owes'] 239, rO t_api_Pack .i a8 p8 n8 r.2.1.side'.line'.queue', rM t_api_Pack b3 r.2.1.side'.line'.kept', rO (tInt .u8) .i a9 p9 n9 r.2.1.side'.line'.coming', rO (tSl (tInt .u8)) .i aB pA nC r.2.1.got']) := by
 refine fc_of fun E hs => ?_;unfold shutterlaw25_pair.m at H;cases hs.nR d0;refine fn_of (rs := [.tmp 6, .tmp 7, .tmp 8]) (N := 33) Tryz.func32 rfl rfl rfl rfl ?_;obtain ⟨hk, bk⟩ := hs.call tk0 (.c (qB d0) .n);refine st 11 [] (k_call H (fun _ m => side_NewClient.calls m hk) ?_);rintro t0 _ h H ⟨I, _, ⟨b6, aF, pG, nG, aH, pH, nH, b7, aI, pJ, nI, b8, aJ, pK, nJ, aK, pL, nK, aM, pM, nL, aQ, pO, nN, aR, pP, nQ, v0, rfl, rfl⟩, hk⟩;replace hs := bk hk (.s (.s (.s (.s (.s (.s ct6)))))) rfl;cases hs.nR d1;cases hs.nR d2;cases hs.nO d4;cases hs.nO d6;cases hs.nR d7;cases hs.nO d8;cases hs.nO d9;cases hs.nO d10;obtain ⟨hk, bk⟩ := hs.call tk0 (.c (qB d12) .n);refine st 9 [] (k_call H (fun _ m => side_NewHost.calls m hk) ?_);rintro t1 _ h H ⟨I, _, ⟨b9, aS, pQ, nT, aT, pT, nU, bA, aU, pU, nV, bB, aV, pV, nW, aW, pW, nY, rfl, rfl⟩, hk⟩;replace hs := bk hk (.s (.s ct6)) rfl;cases hs.nR d1;cases hs.nR d2;cases hs.nO d4;cases hs.nO d6;cases hs.nO d7;rcases (hs.er d19).cases with ⟨c0, rfl⟩ | ⟨c0, t2, u0, rfl⟩
 ·rw [if_pos c0] at H;obtain rfl := si H;exact st 20 [] (k_retQ ⟨_, by kernel_rfl, I, _, ⟨b6, aF, pG, t0.1.side'.key'.length, aH, pH, t0.1.side'.gate'.Key.length, b7, aI, pJ, t0.1.side'.line'.queue'.length, b8, aJ, pK, t0.1.side'.line'.coming'.length, aK, pL, t0.1.s'.Cells.length, aM, pM, t0.1.todo'.length, aQ, pO, t0.1.sent'.length, aR, pP, t0.1.events'.length, b9, aS, pQ, t1.side'.key'.length, aT, pT, t1.side'.gate'.Key.length, bA, aU, pU, t1.side'.line'.queue'.length, bB, aV, pV, t1.side'.line'.coming'.length, aW, pW, t1.got'.length, rfl, rfl⟩, hs.pk (.c d8 (.c d8 (.c d8 (.c d8 (.c d8 (.c d8 (.c d8 (.c d8 (.c d8 (.c d8 (.c d8 (.c d0 (.c d0 (.c d0 (.c d0 (.c d0 (.c d0 (.c d0 (.c d0 .n)))))))))))))))))))⟩)
 rw [if_neg c0] at H;cases H
def api_Code.m (x0 : GoErr) : Option Int := some (codeOf x0)
theorem api_Code.calls {B I : Gh} {h : Heap} {x0 : GoErr} {v0 : Value} {r : Int} (H : api_Code.m x0 = some r) : Fc Tryz.prog 21 #[v0] [rE .b v0 x0, rG] B I h (fun v L => v = .int .i64 r ∧ L = []) :=
  Code_fc (Option.some.inj H)
def slices_Clone_api_Cell.m (x0 : (List api_Cell)) : Option (List api_Cell) :=
  ((app [] x0).bind fun l0 => (some l0))
theorem slices_Clone_api_Cell.calls {B I : Gh} {h : Heap} {x0 : (List api_Cell)} {a0 : Option Addr} {p0 : Nat} {n0 : Nat} {r : (List api_Cell)} (H : slices_Clone_api_Cell.m x0 = some r)  :
    Fc Tryz.prog 129 #[.slice a0 n0 p0] [rR t_api_Cell .b a0 p0 n0 x0] B I h (fun v L => ∃ a1 p1 n1, v = .slice a1 n1 p1 ∧ L = [rO t_api_Cell .i a1 p1 n1 r]) := by
 refine fc_of fun E hs => ?_;unfold slices_Clone_api_Cell.m at H;cases hs.nR d0;refine fn_of (rs := [.tmp 2]) (N := 8) Tryz.func129 rfl rfl rfl rfl ?_;rcases a0 with _ | ad0
 ·have e0 := ((hs.sR d0).toSl.nil rfl).1;replace H : (some []) = some r := by simpa [app, Lim, e0] using H
  obtain rfl := si H;exact st 15 [true] (k_retQ ⟨_, by kernel_rfl, I, _, ⟨none, 0, 0, rfl, rfl⟩, hs.pk (.f imON .n)⟩)
 refine st 14 [false] (k_op (nS (e := 89) hs .i t_api_Cell ([] : List api_Cell) [] 6 (.agg #[.bool false, .bool false, .bool false, iv 0, .bool false, .int .u8 0]) (.nil : Reps t_api_Cell (Cl.G .i E.B I) h [] []) ?_));intro b0 h hs;obtain ⟨l0, m0, H⟩ := bind_some H;refine st 1 [] (k_op (aO (e := 89) (bytes := 40) hs ((hs.sR d1).flat (fun r => r)) m0 ?_));intro a2 p2 h hs;obtain rfl := si H;exact st 2 [] (k_retQ ⟨_, by kernel_rfl, I, _, ⟨a2, p2, l0.length, rfl, rfl⟩, hs.pk (.c d0 .n)⟩)
def grid_Copy.m (x0 : api_Screen) : Option api_Screen :=
  ((slices_Clone_api_Cell.m x0.Cells).bind fun t0 => (some (⟨x0.Rows, x0.Cols, t0, x0.Cursor, x0.Locked, x0.Insert⟩ : api_Screen)))
theorem grid_Copy.calls {B I : Gh} {h : Heap} {x0 : api_Screen} {a1 : Option Addr} {p1 : Nat} {n0 : Nat} {r : api_Screen} (H : grid_Copy.m x0 = some r)  :
    Fc Tryz.prog 80 #[.agg (cl_api_Screen x0 a1 n0 p1).toArray] [rR t_api_Cell .b a1 p1 n0 x0.Cells] B I h (fun v L => ∃ a2 p2 n1, v = .agg (cl_api_Screen r a2 n1 p2).toArray ∧ L = [rO t_api_Cell .i a2 p2 n1 r.Cells]) := by
 refine fc_of fun E hs => ?_;unfold grid_Copy.m at H;cases hs.nR d0;refine fn_of2 (rs := [.cell 2 56]) (N := 8) Tryz.func80 rfl rfl rfl rfl ?_;refine st 2 [] (k_op (nB hs (cl_api_Screen x0 a1 x0.Cells.length p1) ?_));intro b0 h hs;refine k_op (nA hs [iv 0, iv 0, .slice none 0 0, iv 0, .bool false, .bool false] (.agg #[iv 0, iv 0, .slice none 0 0, iv 0, .bool false, .bool false]) ?_);intro b1 h hs;refine st 4 [] (k_op (lB (hs.bl d1) 2 rfl ?_));obtain ⟨hk, bk⟩ := hs.call tk0 (.c (qB d2) .n);refine k_call H (fun _ m => slices_Clone_api_Cell.calls m hk) ?_;rintro t0 _ h H ⟨I, _, ⟨a0, p0, n2, rfl, rfl⟩, hk⟩;replace hs := bk hk ct1 rfl;cases hs.nO d0;refine st 1 [] (k_op (sB (v := .slice a0 t0.length p0) (hs.f d2) cw2 ?_));intro h hs;refine st 3 [] (k_op (lN (hs.bl d0) 0 6 ?_));refine k_op (sN0 (hs.f d2) (cl_api_Screen x0 a0 t0.length p0) (ones_of rfl) ?_);intro h hs;obtain rfl := si H;exact st 1 [] (k_retQ ⟨[.agg (cl_api_Screen x0 a0 t0.length p0).toArray], (.cons (.agg (by kernel_rfl) (by kernel_rfl) (by kernel_rfl) ((hs.bl d0).seg_ 0 6 (Nat.le_of_ble_eq_true rfl))) .nil), I, _, ⟨a0, p0, t0.length, rfl, rfl⟩, hs.pk (.c d2 .n)⟩)
def attr_Bare.m (x0 : Int) : Option Bool :=
  (if x0 = 108 then (some true) else (if x0 = 110 then (some true) else (if x0 = 107 then (some true) else (if x0 = 109 then (some true) else (some false)))))
theorem attr_Bare.calls {x0 : Int} {h : Heap} {r : Bool} (H : attr_Bare.m x0 = some r)   :
    Ret Tryz.prog 65 #[.int .u8 x0] h (fun v h' => .bool r = v ∧ h' = h) := by
 unfold attr_Bare.m at H;refine fn_of (rs := [.tmp 2]) (N := 10) Tryz.func65 rfl rfl rfl rfl ?_;refine st 18 [] (k_ite H (fun c0 H => ?_) (fun c0 H => ?_))
 ·obtain rfl := si H;exact st 12 [true, true] (k_retQ ⟨_, by kernel_rfl, rfl, rfl⟩)
 refine st 5 [false] (k_ite H (fun c1 H => ?_) (fun c1 H => ?_))
 ·obtain rfl := si H;exact st 12 [true, true] (k_retQ ⟨_, by kernel_rfl, rfl, rfl⟩)
 refine st 4 [false] (k_ite H (fun c2 H => ?_) (fun c2 H => ?_))
 ·obtain rfl := si H;exact st 10 [true] (k_retQ ⟨_, by kernel_rfl, rfl, rfl⟩)
 refine st 6 [false] (k_ite H (fun c3 H => ?_) (fun c3 H => ?_))
 ·obtain rfl := si H;exact st 9 [true] (k_retQ ⟨_, by kernel_rfl, rfl, rfl⟩)
 obtain rfl := si H;exact st 9 [false] (k_retQ ⟨_, by kernel_rfl, rfl, rfl⟩)
def attr_Aid.m (x0 : Int) : Option Bool :=
  ((attr_Bare.m x0).bind fun t0 => bif t0 then (some true) else (if x0 = 125 then (some true) else (if x0 ≥ 241 then (if x0 ≤ 249 then (some true) else (if x0 ≥ 122 then (some (decide (x0 ≤ 124))) else (some false))) else (if x0 ≥ 122 then (some (decide (x0 ≤ 124))) else (some false)))))
theorem attr_Aid.calls {x0 : Int} {h : Heap} {r : Bool} (H : attr_Aid.m x0 = some r)   :
    Ret Tryz.prog 68 #[.int .u8 x0] h (fun v h' => .bool r = v ∧ h' = h) := by
 unfold attr_Aid.m at H;refine fn_of (rs := [.tmp 2]) (N := 25) Tryz.func68 rfl rfl rfl rfl ?_;refine st 7 [] (k_call H (fun _ m => attr_Bare.calls m) ?_);rintro t0 _ _ H ⟨rfl, rfl⟩;cases t0;rotate_left
 ·rw [cond_true] at H;obtain rfl := si H;exact st 22 [] (k_retQ ⟨_, by kernel_rfl, rfl, rfl⟩)
 rw [cond_false] at H;refine st 2 [] (k_ite H (fun c0 H => ?_) (fun c0 H => ?_))
 ·obtain rfl := si H;exact st 19 [] (k_retQ ⟨_, by kernel_rfl, rfl, rfl⟩)
 refine st 3 [] (k_ite H (fun c1 H => ?_) (fun c1 H => ?_));rotate_left
 ·refine st 7 [] (k_ite H (fun c4 H => ?_) (fun c4 H => ?_))
  ·obtain rfl := si H;exact st 7 [] (k_retQ ⟨_, by kernel_rfl, rfl, rfl⟩)
  obtain rfl := si H;exact st 7 [] (k_retQ ⟨_, by kernel_rfl, rfl, rfl⟩)
 refine st 2 [] (k_ite H (fun c2 H => ?_) (fun c2 H => ?_))
 ·obtain rfl := si H;exact st 12 [] (k_retQ ⟨_, by kernel_rfl, rfl, rfl⟩)
 refine st 4 [] (k_ite H (fun c3 H => ?_) (fun c3 H => ?_))
 ·obtain rfl := si H;exact st 7 [] (k_retQ ⟨_, by kernel_rfl, rfl, rfl⟩)
 obtain rfl := si H;exact st 7 [] (k_retQ ⟨_, by kernel_rfl, rfl, rfl⟩)
def keys_asks.m (x0 : api_Screen) (x1 : Int) : Option (api_Screen × Bool × GoErr) :=
  (letJ (α := Bool → Option (api_Screen × Bool × GoErr)) (fun x2 => (bif x2 then (some (x0, false, (GoErr.no 3))) else (bif x0.Locked then none else ((grid_Copy.m x0).bind fun t0 => (if x1 = 109 then (some ((⟨t0.Rows, t0.Cols, (List.replicate t0.Cells.length (⟨false, (⟨false, false, 0, false⟩ : api_Attr), 0⟩ : api_Cell)), 0, true, false⟩ : api_Screen), true, GoErr.nil)) else (some ((⟨t0.Rows, t0.Cols, t0.Cells, t0.Cursor, true, false⟩ : api_Screen), true, GoErr.nil))))))) fun j0 => ((attr_Aid.m x1).bind fun t1 => bif t1 then (j0 false) else (j0 true)))
theorem keys_asks.calls {B I : Gh} {h : Heap} {x0 : api_Screen} {x1 : Int} {a1 : Option Addr} {p1 : Nat} {n0 : Nat} {r : (api_Screen × Bool × GoErr)} (H : keys_asks.m x0 x1 = some r)  :
    Fc Tryz.prog 184 #[.agg (cl_api_Screen x0 a1 n0 p1).toArray, .int .u8 x1] [rR t_api_Cell .i a1 p1 n0 x0.Cells] B I h (fun v L => ∃ a2 p2 n1 v0, v = .tuple #[.agg (cl_api_Screen r.1 a2 n1 p2).toArray, .bool r.2.1, v0] ∧ L = [rR t_api_Cell .i a2 p2 n1 r.1.Cells, rE .i v0 r.2.2]) := by
 refine fc_of fun E hs => ?_;unfold keys_asks.m at H;cases hs.nR d0;refine fn_of2 (rs := [.cell 4 56, .tmp 5, .tmp 6]) (N := 28) Tryz.func184 rfl rfl rfl rfl ?_;refine st 2 [] (k_op (nB hs (cl_api_Screen x0 a1 x0.Cells.length p1) ?_));intro b0 h hs;refine k_op (nA hs [iv 0, iv 0, .slice none 0 0, iv 0, .bool false, .bool false] (.agg #[iv 0, iv 0, .slice none 0 0, iv 0, .bool false, .bool false]) ?_);intro b1 h hs;refine st 6 [] (k_jT H hs (fun x2 => [(1, .int .u8 x1), (2, pv b0), (4, pv b1), (7, .bool x2)]) ?_ ?_ ?_)
 ·intro j0 H;refine st 2 [] (k_call H (fun _ m => attr_Aid.calls m) ?_);rintro t1 _ _ H ⟨rfl, rfl⟩;cases t1
  ·rw [cond_false] at H;exact st 3 [] (k_end ⟨true, I, H, ft, hs⟩)
  rw [cond_true] at H;exact st 3 [] (k_end ⟨false, I, H, ft, hs⟩)
 ·intro ρ h I H hs;refine st 3 [true] (k_op (lN (hs.bl d1) 0 6 ?_));refine st 1 [] (k_op (sN0 hs (cl_api_Screen x0 a1 x0.Cells.length p1) (ones_of rfl) ?_));intro h hs;obtain rfl := si H;exact st 3 [] (k_retQ ⟨[.agg (cl_api_Screen x0 a1 x0.Cells.length p1).toArray, .bool false, .iface 137 (iv 3)], (.cons (.agg (by kernel_rfl) (by kernel_rfl) (by kernel_rfl) ((hs.bl d0).seg_ 0 6 (Nat.le_of_ble_eq_true rfl))) (.cons (.tmp (by kernel_rfl)) (.cons (.tmp (by kernel_rfl)) .nil))), I, _, ⟨a1, p1, x0.Cells.length, (.iface 137 (iv 3)), rfl, rfl⟩, hs.pk (.c d2 (.f imEC .n))⟩)
 intro ρ h I H hs;refine st 4 [false] (k_op (lB (hs.bl d1) 4 rfl ?_));refine k_spl H (fun c0 H => ?_) (fun c0 H => ?_)
 ·cases H
 refine st 7 [false] (k_op (lN (hs.bl d1) 0 6 ?_));obtain ⟨hk, bk⟩ := hs.call tk0 (.c (qI d2) .n);refine k_call H (fun _ m => grid_Copy.calls m hk) ?_;rintro t0 _ h H ⟨I, _, ⟨a0, p0, n2, rfl, rfl⟩, hk⟩;replace hs := bk hk ct1 rfl;cases hs.nO d0;refine k_op (sN0 (hs.f d2) (cl_api_Screen t0 a0 t0.Cells.length p0) (ones_of rfl) ?_);intro h hs;refine st 4 [] (k_op (sB (v := .bool true) hs cw4 ?_));intro h hs;refine st 1 [] (k_op (sB (v := .bool false) hs cw5 ?_));intro h hs;refine st 5 [] (k_ite H (fun c1 H => ?_) (fun c1 H => ?_));rotate_left
 ·refine st 5 [false] (k_op (lN (hs.bl d0) 0 6 ?_));refine k_op (sN0 (hs.f d2) [iv t0.Rows, iv t0.Cols, .slice a0 t0.Cells.length p0, iv t0.Cursor, .bool true, .bool false] (ones_of rfl) ?_);intro h hs;obtain rfl := si H;obtain ⟨I, hs⟩ := (hs.f d2).fO;exact st 3 [] (k_retQ ⟨[.agg #[iv t0.Rows, iv t0.Cols, .slice a0 t0.Cells.length p0, iv t0.Cursor, .bool true, .bool false], .bool true, .nilIface], (.cons (.agg (by kernel_rfl) (by kernel_rfl) (by kernel_rfl) ((hs.bl d1).seg_ 0 6 (Nat.le_of_ble_eq_true rfl))) (.cons (.tmp (by kernel_rfl)) (.cons (.tmp (by kernel_rfl)) .nil))), I, _, ⟨a0, p0, t0.Cells.length, (.nilIface), rfl, rfl⟩, hs.pk (.c d0 (.f imEN .n))⟩)
 refine st 5 [true] (k_op (lB (hs.bl d0) 2 rfl ?_));replace hs := (hs.f d1);refine k_op (clO (e := 89) hs (⟨false, (⟨false, false, 0, false⟩ : api_Attr), 0⟩ : api_Cell) (.agg #[.bool false, .bool false, .bool false, iv 0, .bool false, .int .u8 0]) (fun _ _ => rfl) ?_);intro h hs;refine st 3 [] (k_op (sB (v := iv 0) (hs.f d1) cw3 ?_));intro h hs;refine st 3 [] (k_op (lN (hs.bl d0) 0 6 ?_));refine k_op (sN0 (hs.f d2) [iv t0.Rows, iv t0.Cols, .slice a0 t0.Cells.length p0, iv 0, .bool true, .bool false] (ones_of rfl) ?_);intro h hs;obtain rfl := si H;obtain ⟨I, hs⟩ := (hs.f d2).fO;exact st 3 [] (k_retQ ⟨[.agg #[iv t0.Rows, iv t0.Cols, .slice a0 t0.Cells.length p0, iv 0, .bool true, .bool false], .bool true, .nilIface], (.cons (.agg (by kernel_rfl) (by kernel_rfl) (by kernel_rfl) ((hs.bl d1).seg_ 0 6 (Nat.le_of_ble_eq_true rfl))) (.cons (.tmp (by kernel_rfl)) (.cons (.tmp (by kernel_rfl)) .nil))), I, _, ⟨a0, p0, t0.Cells.length, (.nilIface), rfl, rfl⟩, hs.pk (.c d0 (.f imEN .n))⟩)
def move_Moves.m (x0 : Int) : Option Bool :=
  (if x0 ≥ 2 then (some (decide (x0 ≤ 9))) else (some false))
theorem move_Moves.calls {x0 : Int} {h : Heap} {r : Bool} (H : move_Moves.m x0 = some r)   :
    Ret Tryz.prog 225 #[iv x0] h (fun v h' => .bool r = v ∧ h' = h) := by
 unfold move_Moves.m at H;refine fn_of (rs := [.tmp 2]) (N := 9) Tryz.func225 rfl rfl rfl rfl ?_;refine st 7 [] (k_ite H (fun c0 H => ?_) (fun c0 H => ?_))
 ·obtain rfl := si H;exact st 6 [] (k_retQ ⟨_, by kernel_rfl, rfl, rfl⟩)
 obtain rfl := si H;exact st 6 [] (k_retQ ⟨_, by kernel_rfl, rfl, rfl⟩)
def grid_On.m (x0 : api_Screen) (x1 : Int) (x2 : Int) : Option Int :=
  (if (x0.Cells.length : Int) ≠ 0 then (some (Int.tmod (w64 ((w64 (x1 + (Int.tmod x2 (x0.Cells.length : Int)))) + (x0.Cells.length : Int))) (x0.Cells.length : Int))) else none)
theorem grid_On.calls {B I : Gh} {h : Heap} {x0 : api_Screen} {x2 : Int} {x1 : Int} {a0 : Option Addr} {p0 : Nat} {n0 : Nat} {r : Int} (H : grid_On.m x0 x2 x1 = some r)  :
    Fc Tryz.prog 272 #[.agg (cl_api_Screen x0 a0 n0 p0).toArray, iv x2, iv x1] [rR t_api_Cell .b a0 p0 n0 x0.Cells] B I h (fun v L => v = iv r ∧ L = []) := by
 refine fc_of fun E hs => ?_;unfold grid_On.m at H;cases hs.nR d0;refine fn_of (rs := [.tmp 6]) (N := 20) Tryz.func272 rfl rfl rfl rfl ?_;refine st 2 [] (k_op (nB hs (cl_api_Screen x0 a0 x0.Cells.length p0) ?_));intro b0 h hs;refine st 5 [] (k_op (lB (hs.bl d0) 2 rfl ?_));obtain ⟨c0, H⟩ := guard_pos H;refine st 8 [] (k_val (iv (Int.tmod x1 (x0.Cells.length : Int))) (pr_rem (k := .i64) (a := x1) (b := (x0.Cells.length : Int)) (by kernel_rfl) (by kernel_rfl) c0) ?_);refine st 4 [] (k_val (iv (Int.tmod (w64 ((w64 (x2 + (Int.tmod x1 (x0.Cells.length : Int)))) + (x0.Cells.length : Int))) (x0.Cells.length : Int))) (pr_rem (k := .i64) (a := (w64 ((w64 (x2 + (Int.tmod x1 (x0.Cells.length : Int)))) + (x0.Cells.length : Int)))) (b := (x0.Cells.length : Int)) (by kernel_rfl) (by kernel_rfl) c0) ?_);obtain rfl := si H;exact st 2 [] (k_retQ ⟨_, by kernel_rfl, I, _, ⟨rfl, rfl⟩, hs.pk .n⟩)
def field_enters.m (x1 : api_Screen) (x0 : Int) : Option Bool :=
  (if 0 ≤ x0 then (if x0 < (x1.Cells.length : Int) then (bif (at_ x1.Cells x0).Field then none else (some false)) else none) else none)
theorem field_enters.calls {B I : Gh} {h : Heap} {x0 : api_Screen} {x1 : Int} {a0 : Option Addr} {p0 : Nat} {n0 : Nat} {r : Bool} (H : field_enters.m x0 x1 = some r)  :
    Fc Tryz.prog 305 #[.agg (cl_api_Screen x0 a0 n0 p0).toArray, iv x1] [rR t_api_Cell .b a0 p0 n0 x0.Cells] B I h (fun v L => v = .bool r ∧ L = []) := by
 refine fc_of fun E hs => ?_;unfold field_enters.m at H;cases hs.nR d0;refine fn_of (rs := [.tmp 4]) (N := 30) Tryz.func305 rfl rfl rfl rfl ?_;refine st 2 [] (k_op (nB hs (cl_api_Screen x0 a0 x0.Cells.length p0) ?_));intro b0 h hs;refine st 5 [] (k_op (lB (hs.bl d0) 2 rfl ?_));obtain ⟨c1, H⟩ := guard_pos H;obtain ⟨c2, H⟩ := guard_pos H;refine st 1 [] (k_val (elemPtr a0 (x1.toNat * 6)) (pI (e := 89) (ik := .i64) (hs.sR d1) c1 c2) ?_);obtain ⟨y0, g0, q0⟩ := (hs.sR d1).toSl.seg c1 c2;obtain rfl := t_api_Cell.open_ q0;refine k_op (lG g0 ?_);refine k_op (nA hs [.bool false, .bool false, .bool false, iv 0, .bool false, .int .u8 0] (.agg #[.bool false, .bool false, .bool false, iv 0, .bool false, .int .u8 0]) ?_);intro b1 h hs;refine k_op (sN0 hs [.bool ((at_ x0.Cells x1).Field), .bool (((at_ x0.Cells x1).Attr).Protected), .bool (((at_ x0.Cells x1).Attr).Numeric), iv (((at_ x0.Cells x1).Attr).Show), .bool (((at_ x0.Cells x1).Attr).Modified), .int .u8 ((at_ x0.Cells x1).Char)] (ones_of rfl) ?_);intro h hs;refine st 2 [] ?_;obtain ⟨hs0, bk0⟩ := hs.call tk0 (.c (qL d0) .n);have hs := hs0;refine k_regD hs0 20 ?_;refine aRun [0] 19 hs.keep ?_;refine aL 1 rfl hs.keep (ll hs0 d0 (n := 0) rfl) (nmL hs0 d0) ?_;rcases bool_or ((at_ x0.Cells x1).Field) with c0 | c0;rotate_left
 ·replace H := bif_t c0 H;cases H
 replace H := bif_f c0 H;refine a_known c0 ?_;refine aRun [2, 3, 4, 5, 6, 7, 8, 9, 10, 11, 12, 13, 14, 15, 16, 17, 18, 19] 0 hs.keep ?_;replace hs := hs.pk .n;replace hs := bk0 hs ct0 rfl;refine aEnd ?_;obtain rfl := si H;exact k_retQ ⟨_, by kernel_rfl, I, _, ⟨rfl, rfl⟩, hs.pk .n⟩
def field_sign.m (x0 : Int) : Option Int :=
  (if x0 < 0 then (some (-1)) else (some 1))
theorem field_sign.calls {x0 : Int} {h : Heap} {r : Int} (H : field_sign.m x0 = some r)   :
    Ret Tryz.prog 307 #[iv x0] h (fun v h' => iv r = v ∧ h' = h) := by
 unfold field_sign.m at H;refine fn_of (rs := [.tmp 2]) (N := 5) Tryz.func307 rfl rfl rfl rfl ?_;refine st 8 [] (k_ite H (fun c0 H => ?_) (fun c0 H => ?_))
 ·obtain rfl := si H;exact st 6 [true] (k_retQ ⟨_, by kernel_rfl, rfl, rfl⟩)
 obtain rfl := si H;exact st 7 [false] (k_retQ ⟨_, by kernel_rfl, rfl, rfl⟩)
def field_round.xs (s : api_Screen) (sg : Int) : Nat → Int → Option (List Int)
  | 0, _ => some []
  | n + 1, x => (grid_On.m s x sg).bind fun y => (field_round.xs s sg n y).bind fun l => some (x :: l)
def field_round.m (x0 : api_Screen) (x1 : Int) (x2 : Int) : Option (List Int) :=
  if (x0.Cells.length : Int) ≤ 1099511627776 then (grid_On.m x0 x1 x2).bind fun x => (field_sign.m x2).bind fun sg => field_round.xs x0 sg x0.Cells.length x else none
theorem field_round.xs_len {s : api_Screen} {sg : Int} : ∀ {n : Nat} {x : Int} {l : List Int}, field_round.xs s sg n x = some l → l.length = n
  | 0, _, l, h => by obtain rfl := Option.some.inj h; rfl
  | n + 1, x, l, h => by
    unfold field_round.xs at h
    obtain ⟨y, _, h⟩ := bind_some h
    obtain ⟨l', h1, h⟩ := bind_some h
    obtain rfl := Option.some.inj h
    rw [List.length_cons, field_round.xs_len h1]
theorem field_round.xs_cons {s : api_Screen} {sg : Int} {n : Nat} {x x' : Int} {l : List Int} (h : field_round.xs s sg (n + 1) x = some (x' :: l)) : x' = x ∧ ∃ y, grid_On.m s x sg = some y ∧ field_round.xs s sg n y = some l := by
  unfold field_round.xs at h
  obtain ⟨y, h1, h⟩ := bind_some h
  obtain ⟨l', h2, h⟩ := bind_some h
  have e := Option.some.inj h
  obtain ⟨rfl, rfl⟩ := List.cons.inj e
  exact ⟨rfl, y, h1, h2⟩
theorem field_round.calls {B I : Gh} {h : Heap} {x0 : api_Screen} {x1 : Int} {x2 : Int} {a21 : Option Addr} {p22 : Nat} {n23 : Nat} {r : List Int} (H : field_round.m x0 x1 x2 = some r) :
    Fc Tryz.prog 293 #[.agg #[.int .i64 x0.Rows, .int .i64 x0.Cols, .slice a21 n23 p22, .int .i64 x0.Cursor, .bool x0.Locked, .bool x0.Insert], .int .i64 x1, .int .i64 x2] [] B I h
      (fun v L => ∃ (b1 b2 b3 : Nat), v = .func (.func 306) #[] #[.pointer (some ⟨b1, 0, none⟩), .pointer (some ⟨b2, 0, none⟩), .pointer (some ⟨b3, 0, none⟩)] ∧
        L = [rB b1 [.int .i64 x0.Rows, .int .i64 x0.Cols, .slice a21 n23 p22, .int .i64 x0.Cursor, .bool x0.Locked, .bool x0.Insert] 56, rB b2 [.int .i64 x1] 3, rB b3 [.int .i64 x2] 3] ∧ field_round.m x0 x1 x2 = some r) := by
 refine fc_of fun E hs => ?_
 refine fn_of (args := [.agg #[.int .i64 x0.Rows, .int .i64 x0.Cols, .slice a21 n23 p22, .int .i64 x0.Cursor, .bool x0.Locked, .bool x0.Insert], .int .i64 x1, .int .i64 x2]) (rs := [.tmp 6]) (N := 8) Tryz.func293 rfl rfl rfl rfl ?_
 refine st 2 [] (k_op (nB hs [.int .i64 x0.Rows, .int .i64 x0.Cols, .slice a21 n23 p22, .int .i64 x0.Cursor, .bool x0.Locked, .bool x0.Insert] ?_))
 intro b1 h hs
 refine k_op (nB hs [.int .i64 x1] ?_)
 intro b2 h hs
 refine k_op (nB hs [.int .i64 x2] ?_)
 intro b3 h hs
 refine st 7 [] ?_
 refine k_retQ ?_
 exact ⟨_, by kernel_rfl, I, _, ⟨b1, b2, b3, rfl, rfl, H⟩, hs.pk (.c d2 (.c d1 (.c d0 .n)))⟩
structure RndH (s : api_Screen) (x1 x2 : Int) (a : Option Addr) (p n b1 b2 b3 : Nat) (h : Heap) : Prop where
  s1 : segAt h (some ⟨b1, 0, none⟩) 0 6 = some [.int .i64 s.Rows, .int .i64 s.Cols, .slice a n p, .int .i64 s.Cursor, .bool s.Locked, .bool s.Insert]
  c1 : cellAt h (some ⟨b1, 0, none⟩) 2 = some (.slice a n p)
  c2 : cellAt h (some ⟨b2, 0, none⟩) 0 = some (.int .i64 x1)
  c3 : cellAt h (some ⟨b3, 0, none⟩) 0 = some (.int .i64 x2)
  rd : ∃ I, Bd I h ∧ Rd t_api_Cell I h a p s.Cells
  len : s.Cells.length = n
theorem grid_On.ret {s : api_Screen} {x y r : Int} {a : Option Addr} {p n : Nat} {h : Heap} (H : grid_On.m s x y = some r) (hr : ∃ I, Bd I h ∧ Rd t_api_Cell I h a p s.Cells) (hl : s.Cells.length = n) :
    Ret Tryz.prog 272 #[.agg #[.int .i64 s.Rows, .int .i64 s.Cols, .slice a n p, .int .i64 s.Cursor, .bool s.Locked, .bool s.Insert], .int .i64 x, .int .i64 y] h (fun v h' => v = .int .i64 r ∧ Grown h h') := by
  obtain ⟨I, hB, rd⟩ := hr
  have pl : St (en [rR t_api_Cell .b a p n s.Cells] No I h) [rR t_api_Cell .b a p n s.Cells] I h :=
    ⟨Pst.refl hB, fun _ x => x.elim, fun _ _ x => x, ⟨⟨⟨rd.mono (fun _ y => .inl y), hl⟩, fun _ x => x.elim, fun _ x => x.elim⟩, trivial⟩, fun _ x => .inl x⟩
  refine (grid_On.calls (B := No) H pl).mono ?_
  rintro v h' ⟨I', L, ⟨rfl, rfl⟩, hs⟩
  exact ⟨rfl, hs.pst.grown fun b x => x.elim id id⟩
theorem field_round.iter {s : api_Screen} {x1 x2 : Int} {a : Option Addr} {p n b1 b2 b3 : Nat} {xs : List Int} (H : field_round.m s x1 x2 = some xs) :
    Iter Tryz.prog 306 #[.pointer (some ⟨b1, 0, none⟩), .pointer (some ⟨b2, 0, none⟩), .pointer (some ⟨b3, 0, none⟩)] (fun x => #[Value.int .i64 x]) xs (RndH s x1 x2 a p n b1 b2 b3) := by
  unfold field_round.m at H
  obtain ⟨hlim, H⟩ := guard_pos H
  intro l J Jx hJH hJG hXG hy h h0
  have H0 := hJH _ _ h0
  refine fn_of (args := [.func (.yield l) #[] #[], .pointer (some ⟨b1, 0, none⟩), .pointer (some ⟨b2, 0, none⟩), .pointer (some ⟨b3, 0, none⟩)]) (rs := []) (N := 25) Tryz.func306 rfl rfl rfl rfl ?_
  refine st 2 [] (k_op (lG (a := some ⟨b1, 0, none⟩) (n := 0) H0.s1 ?_))
  refine k_op (lC (a := some ⟨b2, 0, none⟩) (n := 0) H0.c2 ?_)
  refine k_op (lC (a := some ⟨b3, 0, none⟩) (n := 0) H0.c3 ?_)
  refine k_call H (fun _ m => grid_On.ret m H0.rd H0.len) ?_
  rintro x _ h1 H ⟨rfl, g1⟩
  have h0 := hJG _ _ _ h0 g1
  have H0 := hJH _ _ h0
  obtain ⟨sg, Hs, H⟩ := bind_some H
  have hln := field_round.xs_len H
  have hn := H0.len
  refine st 5 [] (k_op (lC (a := some ⟨b1, 0, none⟩) (n := 2) H0.c1 ?_))
  refine st 4 [] ?_
  refine k_loop 0 (fun k ρ h => ∃ (pre rest : List Int) (x i : Int), xs = pre ++ rest ∧ field_round.xs s sg rest.length x = some rest ∧ k = rest.length ∧ i = (pre.length : Int) ∧
    Fits [(0, .func (.yield l) #[] #[]), (1, .pointer (some ⟨b1, 0, none⟩)), (2, .pointer (some ⟨b2, 0, none⟩)), (3, .pointer (some ⟨b3, 0, none⟩)), (5, .int .i64 x), (12, .int .i64 (n : Int)), (13, .int .i64 i)] ρ ∧ J pre h)
    (fun _ h => J xs h) xs.length ⟨[], xs, x, 0, rfl, by rw [hln]; exact H, rfl, rfl, ⟨by kernel_rfl, by kernel_rfl, by kernel_rfl, by kernel_rfl, by kernel_rfl, by kernel_rfl, by kernel_rfl, trivial⟩, h0⟩ ?_ rfl ?_
  · rintro k ρ h2 ⟨pre, rest, x, i, hx, hr, rfl, hi, hf, hJ⟩
    refine k_fits _ hf ?_ rfl
    have H0 := hJH _ _ hJ
    have hl2 : (pre.length : Int) + (rest.length : Int) = (n : Int) := by rw [← hn, ← hln, hx, List.length_append]; omega
    cases rest with
    | nil =>
      rw [List.append_nil] at hx
      subst hx
      refine st 2 [] (k_val (.bool false) (pr_bool (b := decide (i < (n : Int))) (by kernel_rfl) (decide_eq_false (by rw [hi]; simp at hl2; omega))) ?_)
      refine st 3 [false] ?_
      refine k_out rfl ?_
      exact xE hJ
    | cons x' rest =>
      rw [List.length_cons] at hl2
      obtain ⟨rfl, y, hy1, hy2⟩ := field_round.xs_cons hr
      refine st 2 [] (k_val (.bool true) (pr_bool (b := decide (i < (n : Int))) (by kernel_rfl) (decide_eq_true (by rw [hi]; omega))) ?_)
      refine st 11 [true] (k_op (owp_yield (args := #[.int .i64 x']) (hy pre x' rest h2 hx hJ) ?_))
      rintro b h3 (⟨rfl, hJ3⟩ | ⟨rfl, hX⟩)
      · have H3 := hJH _ _ hJ3
        refine st 4 [false] ?_
        refine k_regP 6 ?_
        refine aG (a := some ⟨b1, 0, none⟩) (n := 0) 0 rfl Keep.refl H3.s1 (fun _ _ x => x) ?_
        refine aRun [1] 4 Keep.refl ?_
        refine aL (a := some ⟨b3, 0, none⟩) (n := 0) 2 rfl Keep.refl H3.c3 (fun _ _ x => x) ?_
        refine aO1 3 rfl (owp_callF (by kernel_rfl) (field_sign.calls Hs) ?_)
        rintro v h' ⟨e1, e2⟩
        rw [← e1, e2]
        refine ⟨Keep.refl, ?_⟩
        refine aO1 4 rfl (owp_callF (by kernel_rfl) (grid_On.ret hy1 H3.rd H3.len) ?_)
        rintro _ h4 ⟨rfl, g4⟩
        have hk : Keep No h3 h4 := fun b hb _ => g4.keep b hb
        refine ⟨hk, ?_⟩
        refine aRun [5] 0 hk ?_
        refine aEnd ?_
        refine st 5 [] ?_
        have e : w64 (i + 1) = ((pre ++ [x']).length : Int) := by
          rw [List.length_append, List.length_singleton, w64_sm (by omega) (by omega)]; omega
        exact k_endL ⟨rest.length, by simp, pre ++ [x'], rest, y, w64 (i + 1), by rw [hx]; simp, hy2, rfl, e, ⟨by kernel_rfl, by kernel_rfl, by kernel_rfl, by kernel_rfl, by kernel_rfl, by kernel_rfl, by kernel_rfl, trivial⟩, hJG _ _ _ hJ3 g4⟩
      · refine st 3 [true] ?_
        refine k_retQ (krL ?_)
        exact ⟨.tuple #[], by kernel_rfl, .inr ⟨_, hX⟩⟩
  · rintro ρ h2 hJ
    refine k_fin ?_
    exact ⟨.tuple #[], by kernel_rfl, .inl hJ⟩
def field_first__field_round_1.l1.m (K : Nat) (x0 : api_Screen) : List Int → Option (Unit)
  | [] => some (())
  | x1 :: xs => ((field_enters.m x0 x1).bind fun t0 => bif t0 then none else (field_first__field_round_1.l1.m K x0 xs))
def field_first__field_round_1.m (K : Nat) (x0 : api_Screen) (x1 : api_Screen) (x2 : Int) (x3 : Int) : Option Int :=
  ((field_round.m x1 x2 x3).bind fun (xs : List Int) => ((field_first__field_round_1.l1.m K x0 xs).bind fun _ => (some (-1))))
theorem field_first__field_round_1.calls {B I : Gh} {h : Heap} {K : Nat} {x0 : api_Screen} {x1 : api_Screen} {x2 : Int} {x3 : Int} {a0 : Option Addr} {p0 : Nat} {n0 : Nat} {b2 : Nat} {a1 : Option Addr} {p1 : Nat} {n1 : Nat} {b3 : Nat} {b0 : Nat} {r : Int} (H : field_first__field_round_1.m K x0 x1 x2 x3 = some r)  :
    Fc Tryz.prog 292 #[.agg (cl_api_Screen x0 a0 n0 p0).toArray, .func (.func 306) #[] #[pv b2, pv b3, pv b0]] [rR t_api_Cell .b a0 p0 n0 x0.Cells, rL b2 (cl_api_Screen x1 a1 n1 p1) 56, rR t_api_Cell .b a1 p1 n1 x1.Cells, rL b3 [iv x2] 3, rL b0 [iv x3] 3] B I h (fun v L => v = iv r ∧ L = []) := by
 refine fc_of fun E hs => ?_;unfold field_first__field_round_1.m at H;obtain ⟨xs, hm, H⟩ := bind_some H;cases hs.nR d0;cases hs.nR d2;refine fn_rangeW2 (args := [.agg (cl_api_Screen x0 a0 x0.Cells.length p0).toArray, .func (.func 306) #[] #[pv b2, pv b3, pv b0]]) (rs := [.cell 4 3]) (N := 14) [_] Tryz.func292 rfl rfl rfl rfl ?_;refine st 1 [] (k_op (nB hs (cl_api_Screen x0 a0 x0.Cells.length p0) ?_));intro b5 h hs;refine k_op (nA hs [iv 0] (iv 0) ?_);intro b4 h hs;refine st 4 [] ?_;obtain ⟨s0, m0, HR0⟩ := bind_some H;clear H;obtain ⟨h1, eh0⟩ : ∃ h', h' = h := ⟨_, rfl⟩;subst eh0;refine k_loopW (range_st (p := 7) (enc := fun (x : Int) => iv x) (hs.pk (.c d2 (.c d1 (.c d0 (.c d1 (.c d0 (.c d0 (.c d0 .n)))))))) (fun (pre : List Int) L => ∃ (rest : List Int), xs = pre ++ rest ∧ (field_first__field_round_1.l1.m K x0 rest) = some s0 ∧ L = [rR t_api_Cell .b a0 p0 x0.Cells.length x0.Cells, rB b5 (cl_api_Screen x0 a0 x0.Cells.length p0) 56, rB b4 [iv 0] 3, rR t_api_Cell .b a1 p1 x1.Cells.length x1.Cells, rL b2 (cl_api_Screen x1 a1 x1.Cells.length p1) 56, rL b3 [iv x2] 3, rL b0 [iv x3] 3]) (mkY (fun _ => False) (fun _ _ => False)) ⟨xs, rfl, m0, rfl⟩ (by kernel_rfl) (enters_of Tryz.func306 rfl (by kernel_rfl)) (field_round.iter (a := a1) (p := p1) (n := x1.Cells.length) (b1 := b2) (b2 := b3) (b3 := b0) hm) ?_ (fun x => [(5, iv x), (7, iv x)]) ?_ rfl ?_) ?_ ?_ ?_
 ·rintro o pre L I h' ⟨rest, _, _, rfl⟩ hs;exact ⟨lls hs d5 0 6 rfl, ll hs d5 (n := 2) rfl, ll hs d6 (n := 0) rfl, ll hs d7 (n := 0) rfl, ⟨_, hs.bdG (k := .b), hs.rd d4⟩, rfl⟩
 ·intro x Q h' q;exact st 3 [] (k_fin2 q)
 ·rintro o pre x4 rest' L I h hx' ⟨rest, hx, H, rfl⟩ hs;obtain rfl : rest = x4 :: rest' := List.append_cancel_left (hx.symm.trans hx');clear hx';obtain ⟨rest, erest⟩ : ∃ r, r = rest' := ⟨_, rfl⟩;subst erest;rw [field_first__field_round_1.l1.m] at H;refine st 3 [] (k_op (lN (hs.bl d2) 0 6 ?_));obtain ⟨hk, bk⟩ := hs.call tk0 (.c (qB d1) .n);refine st 1 [] (k_call H (fun _ m => field_enters.calls m hk) ?_);rintro t0 _ h H ⟨I, _, ⟨rfl, rfl⟩, hk⟩;replace hs := bk hk ct0 rfl;cases t0
  ·rw [cond_false] at H;refine st 4 [false] (k_fin ?_);exact ⟨_, I, ⟨rest, by simp [hx], H, rfl⟩, hs.pk (.c d0 (.c d0 (.c d0 (.c d0 (.c d0 (.c d0 (.c d0 (.c d0 .n))))))))⟩
  rw [cond_true] at H;cases H
 ·intro h0 hk;have key : ∃ (o : Obj), ∃ I, () = s0 ∧ St E (rQ h1.size (h1.size + 1) o :: [rB b4 [iv 0] 3]) I h0 := by
    rcases hk with ⟨o, L, I, ⟨rest, hx, H, rfl⟩, hs⟩ | ⟨o, L, I, hy, hs⟩
    · obtain rfl : rest = [] := List.append_cancel_left (hx.symm.trans (List.append_nil _).symm)
      rw [field_first__field_round_1.l1.m] at H;obtain rfl := si H;exact ⟨o, I, rfl, hs.pk (.c d0 (.c d2 .n))⟩
    · exact hy.elim
  obtain ⟨o, I, rfl, hs⟩ := key;have H := HR0;try dsimp only at H
  refine st 2 [] (k_op (sB (v := iv (-1)) (hs.f d1) cw0 ?_));intro h hs;refine st 1 [] (k_retQ (krM ?_));obtain rfl := si H;refine ⟨(hs.rqD d1).1, ?_⟩;replace hs := (hs.f d1).rqe;exact ⟨[iv (-1)], (.cons (.one (by kernel_rfl) (by kernel_rfl) ((hs.bl d0).cell (off := 0) rfl)) .nil), I, _, ⟨rfl, rfl⟩, hs.pk .n⟩
 ·rintro h0 ⟨o, L, I, hy, hs⟩;exact hy.elim
 intro i L hy;exact hy.elim
def field_Next.m (K : Nat) (x0 : api_Screen) (x1 : Int) : Option Int :=
  ((field_round.m x0 x1 1).bind fun t1 => ((field_first__field_round_1.m K x0 x0 x1 1).bind fun t0 => (some t0)))
theorem field_Next.calls {B I : Gh} {h : Heap} {K : Nat} {x0 : api_Screen} {x1 : Int} {a21 : Option Addr} {p22 : Nat} {n23 : Nat} {r : Int} (H : field_Next.m K x0 x1 = some r)  :
    Fc Tryz.prog 267 #[.agg (cl_api_Screen x0 a21 n23 p22).toArray, iv x1] [rR t_api_Cell .b a21 p22 n23 x0.Cells] B I h (fun v L => v = iv r ∧ L = []) := by
 refine fc_of fun E hs => ?_;unfold field_Next.m at H;cases hs.nR d0;refine fn_of (rs := [.tmp 4]) (N := 10) Tryz.func267 rfl rfl rfl rfl ?_;refine st 2 [] (k_op (nB hs (cl_api_Screen x0 a21 x0.Cells.length p22) ?_));intro b0 h hs;refine st 3 [] ?_;obtain ⟨hs0, bk0⟩ := hs.call tk0 (.c (qL d0) (.c (qB d1) .n));have hs := hs0;refine k_regD hs0 6 ?_;refine aG 0 rfl hs.keep (lls hs0 d0 0 6 rfl) (nmL hs0 d0) ?_;refine aG 1 rfl hs.keep (lls hs0 d0 0 6 rfl) (nmL hs0 d0) ?_;refine aRun [2] 3 hs.keep ?_;obtain ⟨hk, bk⟩ := hs.call tk0 .n;refine aO1 3 rfl (o_call H (fun _ m => field_round.calls (a21 := a21) (p22 := p22) (n23 := x0.Cells.length) m hk) ?_);rintro t0 _ h H ⟨I, _, ⟨b1, b2, b3, rfl, rfl, m0⟩, hk⟩;replace hs := bk hk ct3 rfl;refine ⟨hs.keep, ?_⟩;obtain ⟨hk, bk⟩ := hs.call tk0 (.c (qB d4) (.c (qL d0) (.c (qB d4) (.c (qL d1) (.c (qL d2) .n)))));refine aO1 4 rfl (o_call H (fun _ m => field_first__field_round_1.calls m hk) ?_);rintro t1 _ h H ⟨I, _, ⟨rfl, rfl⟩, hk⟩;replace hs := bk hk ct0 rfl;refine ⟨hs.keep, ?_⟩;refine aRun [5] 0 hs.keep ?_;replace hs := hs.pk (.c d0 (.c d0 (.c d0 .n)));replace hs := bk0 hs ct3 rfl;refine aEnd ?_;obtain rfl := si H;exact k_retQ ⟨_, by kernel_rfl, I, _, ⟨rfl, rfl⟩, hs.pk .n⟩
def field_Prev.m (K : Nat) (x0 : api_Screen) (x1 : Int) : Option Int :=
  ((field_round.m x0 x1 (-2)).bind fun t1 => ((field_first__field_round_1.m K x0 x0 x1 (-2)).bind fun t0 => (some t0)))
theorem field_Prev.calls {B I : Gh} {h : Heap} {K : Nat} {x0 : api_Screen} {x1 : Int} {a21 : Option Addr} {p22 : Nat} {n23 : Nat} {r : Int} (H : field_Prev.m K x0 x1 = some r)  :
    Fc Tryz.prog 284 #[.agg (cl_api_Screen x0 a21 n23 p22).toArray, iv x1] [rR t_api_Cell .b a21 p22 n23 x0.Cells] B I h (fun v L => v = iv r ∧ L = []) := by
 refine fc_of fun E hs => ?_;unfold field_Prev.m at H;cases hs.nR d0;refine fn_of (rs := [.tmp 4]) (N := 10) Tryz.func284 rfl rfl rfl rfl ?_;refine st 2 [] (k_op (nB hs (cl_api_Screen x0 a21 x0.Cells.length p22) ?_));intro b0 h hs;refine st 3 [] ?_;obtain ⟨hs0, bk0⟩ := hs.call tk0 (.c (qL d0) (.c (qB d1) .n));have hs := hs0;refine k_regD hs0 6 ?_;refine aG 0 rfl hs.keep (lls hs0 d0 0 6 rfl) (nmL hs0 d0) ?_;refine aG 1 rfl hs.keep (lls hs0 d0 0 6 rfl) (nmL hs0 d0) ?_;refine aRun [2] 3 hs.keep ?_;obtain ⟨hk, bk⟩ := hs.call tk0 .n;refine aO1 3 rfl (o_call H (fun _ m => field_round.calls (a21 := a21) (p22 := p22) (n23 := x0.Cells.length) m hk) ?_);rintro t0 _ h H ⟨I, _, ⟨b1, b2, b3, rfl, rfl, m0⟩, hk⟩;replace hs := bk hk ct3 rfl;refine ⟨hs.keep, ?_⟩;obtain ⟨hk, bk⟩ := hs.call tk0 (.c (qB d4) (.c (qL d0) (.c (qB d4) (.c (qL d1) (.c (qL d2) .n)))));refine aO1 4 rfl (o_call H (fun _ m => field_first__field_round_1.calls m hk) ?_);rintro t1 _ h H ⟨I, _, ⟨rfl, rfl⟩, hk⟩;replace hs := bk hk ct0 rfl;refine ⟨hs.keep, ?_⟩;refine aRun [5] 0 hs.keep ?_;replace hs := hs.pk (.c d0 (.c d0 (.c d0 .n)));replace hs := bk0 hs ct3 rfl;refine aEnd ?_;obtain rfl := si H;exact k_retQ ⟨_, by kernel_rfl, I, _, ⟨rfl, rfl⟩, hs.pk .n⟩
def grid_Span.l1.m (K : Nat) (x0 : api_Screen) (x3 : Int) : Nat → (List Int) → Int → Option ((List Int))
  | 0, _, _ => none
  | k + 1, x1, x2 => (if x2 = x3 then (some (x1)) else (if (x1.length : Int) < (x0.Cells.length : Int) then ((app x1 [x2]).bind fun l0 => ((grid_On.m x0 x2 1).bind fun t0 => (grid_Span.l1.m K x0 x3 k l0 t0))) else none))
def grid_Span.m (K : Nat) (x0 : api_Screen) (x1 : Int) (x2 : Int) : Option (List Int) :=
  ((grid_On.m x0 x1 1).bind fun t0 => ((grid_Span.l1.m K x0 x2 K [x1] t0).bind fun x3 => (some x3)))
theorem grid_Span.calls {B I : Gh} {h : Heap} {K : Nat} {x0 : api_Screen} {x1 : Int} {x4 : Int} {a2 : Option Addr} {p2 : Nat} {n2 : Nat} {r : (List Int)} (H : grid_Span.m K x0 x1 x4 = some r)  :
    Fc Tryz.prog 298 #[.agg (cl_api_Screen x0 a2 n2 p2).toArray, iv x1, iv x4] [rR t_api_Cell .b a2 p2 n2 x0.Cells] B I h (fun v L => ∃ a3 p3 n3, v = .slice a3 n3 p3 ∧ L = [rO (tInt .i64) .i a3 p3 n3 r]) := by
 refine fc_of fun E hs => ?_;unfold grid_Span.m at H;cases hs.nR d0;refine fn_of (rs := [.tmp 6]) (N := 33) Tryz.func298 rfl rfl rfl rfl ?_;refine st 2 [] (k_op (nB hs (cl_api_Screen x0 a2 x0.Cells.length p2) ?_));intro b0 h hs;refine st 5 [] (k_op (nS (e := 3) hs .i (tInt .i64) ([x1] : List Int) [iv x1] 1 (iv 0) (Reps.int (I := (Cl.G .i E.B I)) (k := .i64) (l := [x1])) ?_));intro b1 h hs;refine st 5 [] (k_op (lN (hs.bl d1) 0 6 ?_));obtain ⟨hk, bk⟩ := hs.call tk0 (.c (qB d2) .n);refine st 1 [] (k_call H (fun _ m => grid_On.calls m hk) ?_);rintro t0 _ h H ⟨I, _, ⟨rfl, rfl⟩, hk⟩;replace hs := bk hk ct0 rfl;refine st 3 [] ?_;obtain ⟨s0, m0, HR0⟩ := bind_some H;refine k_loopT hs tl1 0 (fun T k' ρ h => ∃ (x3 : List Int) (x2 : Int), ∃ a0 p0 n0 I, grid_Span.l1.m K x0 x4 k' x3 x2 = some s0 ∧ Fits [(2, iv x4), (3, pv b0), (7, .slice a0 n0 p0), (8, iv x2)] ρ ∧ St E (rO (tInt .i64) .i a0 p0 n0 x3 :: T) I h) (fun T ρ h => ∃ (x5 : List Int), ∃ a1 p1 n1 I, x5 = s0 ∧ Fits [(7, .slice a1 n1 p1)] ρ ∧ St E (rO (tInt .i64) .i a1 p1 n1 x5 :: T) I h) K ⟨[x1], t0, (sa b1), 1, 1, I, m0, ft, hs.pk (.c d0 pk0)⟩ ?_ rfl ?_;rotate_left
 ·rintro ρ h ⟨x5, a1, p1, n1, I, rfl, hf, hs⟩;have H := HR0;try dsimp only at H
  refine k_fits _ hf ?_ rfl;cases hs.nO d0;obtain rfl := si H;exact st 5 [] (k_retQ ⟨_, by kernel_rfl, I, _, ⟨a1, p1, x5.length, rfl, rfl⟩, hs.pk (.c d0 .n)⟩)
 clear HR0 m0 H;rintro k' ρ h ⟨x3, x2, a0, p0, n0, I, H, hf, hs⟩;cases k' with
 | zero => cases H
 | succ k =>
  rw [grid_Span.l1.m] at H;refine k_fits _ hf ?_ rfl;cases hs.nO d0;refine st 5 [] (k_iteN H (fun c0 H => ?_) (fun c0 H => ?_))
  ·refine st 10 [false] (k_out rfl ?_);obtain rfl := si H;exact xE ⟨x3, a0, p0, x3.length, I, rfl, ft, hs.pk (.c d0 pk0)⟩
  refine st 4 [] (k_op (lB (hs.bl d1) 2 rfl ?_));refine st 1 [] (k_ite H (fun c1 H => ?_) (fun c1 H => ?_));rotate_left
  ·cases H
  refine st 9 [true] (k_op (nS (e := 3) hs .i (tInt .i64) ([x2] : List Int) [iv x2] 1 (iv 0) (Reps.int (I := (Cl.G .i E.B I)) (k := .i64) (l := [x2])) ?_));intro b2 h hs;replace hs := (hs.f d1);obtain ⟨l0, m1, H⟩ := bind_some H;refine k_op (aO (e := 3) (bytes := 8) hs (hs.sO d1) m1 ?_);intro a4 p4 h hs;refine st 4 [] (k_op (lN (hs.bl d2) 0 6 ?_));obtain ⟨hk, bk⟩ := hs.call tk0 (.c (qB d3) .n);refine st 1 [] (k_call H (fun _ m => grid_On.calls m hk) ?_);rintro t1 _ h H ⟨I, _, ⟨rfl, rfl⟩, hk⟩;replace hs := bk hk ct0 rfl;exact st 2 [] (k_endL ⟨k, Nat.lt_succ_self _, l0, t1, a4, p4, l0.length, I, H, ft, hs.pk (.c d0 pk1)⟩)
def field_Begin.l1.m (K : Nat) (x0 : api_Screen) : List Int → Option (Unit)
  | [] => some (())
  | x1 :: xs => (if 0 ≤ x1 then (if x1 < (x0.Cells.length : Int) then (bif (at_ x0.Cells x1).Field then none else (field_Begin.l1.m K x0 xs)) else none) else none)
def field_Begin.m (K : Nat) (x0 : api_Screen) (x1 : Int) : Option Int :=
  (if 0 ≤ x1 then (if x1 < (x0.Cells.length : Int) then (bif (at_ x0.Cells x1).Field then none else ((field_round.m x0 x1 (-1)).bind fun t0 => ((field_Begin.l1.m K x0 t0).bind fun _ => (some (-1))))) else none) else none)
theorem field_Begin.calls {B I : Gh} {h : Heap} {K : Nat} {x0 : api_Screen} {x1 : Int} {a21 : Option Addr} {p22 : Nat} {n23 : Nat} {r : Int} (H : field_Begin.m K x0 x1 = some r)  :
    Fc Tryz.prog 288 #[.agg (cl_api_Screen x0 a21 n23 p22).toArray, iv x1] [rR t_api_Cell .b a21 p22 n23 x0.Cells] B I h (fun v L => v = iv r ∧ L = []) := by
 refine fc_of fun E hs => ?_;unfold field_Begin.m at H;cases hs.nR d0;refine fn_rangeW2 (args := [.agg (cl_api_Screen x0 a21 x0.Cells.length p22).toArray, iv x1]) (rs := [.cell 4 3]) (N := 24) [_, _] Tryz.func288 rfl rfl rfl rfl ?_;refine st 1 [] (k_op (nB hs (cl_api_Screen x0 a21 x0.Cells.length p22) ?_));intro b7 h hs;refine k_op (nA hs [iv 0] (iv 0) ?_);intro b0 h hs;refine st 4 [] (k_op (lB (hs.bl d1) 2 rfl ?_));obtain ⟨c0, H⟩ := guard_pos H;obtain ⟨c1, H⟩ := guard_pos H;refine st 1 [] (k_val (elemPtr a21 (x1.toNat * 6)) (pI (e := 89) (ik := .i64) (hs.sR d2) c0 c1) ?_);refine k_val (elemPtr a21 (x1.toNat * 6 + 0)) (pF (off := 0) (hs.sR d2) c0 c1) ?_;obtain ⟨y0, g0, q0⟩ := (hs.sR d2).toSl.seg c0 c1;obtain rfl := t_api_Cell.open_ q0;refine k_op (lC (seg_cell (f := 0) g0 rfl) ?_);refine k_spl H (fun c4 H => ?_) (fun c4 H => ?_)
 ·cases H
 refine st 4 [false] (k_op (lN (hs.bl d1) 0 6 ?_));obtain ⟨hk, bk⟩ := hs.call tk0 .n;refine st 1 [] (k_call H (fun _ m => field_round.calls (a21 := a21) (p22 := p22) (n23 := x0.Cells.length) m hk) ?_);rintro t0 _ h H ⟨I, _, ⟨b4, b5, b6, rfl, rfl, m0⟩, hk⟩;replace hs := bk hk ct3 rfl;refine st 1 [] ?_;obtain ⟨s0, m1, HR0⟩ := bind_some H;clear H;obtain ⟨h1, eh0⟩ : ∃ h', h' = h := ⟨_, rfl⟩;subst eh0;refine k_loopW (range_st (p := 16) (enc := fun (x : Int) => iv x) (hs.pk (.c d5 (.c d4 (.c d3 (.c d0 (.c d0 (.c d0 .n))))))) (fun (pre : List Int) L => ∃ (rest : List Int), t0 = pre ++ rest ∧ (field_Begin.l1.m K x0 rest) = some s0 ∧ L = [rR t_api_Cell .b a21 p22 x0.Cells.length x0.Cells, rB b7 (cl_api_Screen x0 a21 x0.Cells.length p22) 56, rB b0 [iv 0] 3, rB b4 (cl_api_Screen x0 a21 x0.Cells.length p22) 56, rB b5 [iv x1] 3, rB b6 [iv (-1)] 3]) (mkY (fun _ => False) (fun _ _ => False)) ⟨t0, rfl, m1, rfl⟩ (by kernel_rfl) (enters_of Tryz.func306 rfl (by kernel_rfl)) (field_round.iter (a := a21) (p := p22) (n := x0.Cells.length) (b1 := b4) (b2 := b5) (b3 := b6) m0) ?_ (fun x => [(5, iv x), (16, iv x)]) ?_ rfl ?_) ?_ ?_ ?_
 ·rintro o pre L I h' ⟨rest, _, _, rfl⟩ hs;exact ⟨(hs.bl d4).seg_ 0 6 (Nat.le_of_ble_eq_true rfl), (hs.bl d4).cell (off := 2) rfl, (hs.bl d5).cell (off := 0) rfl, (hs.bl d6).cell (off := 0) rfl, ⟨_, hs.bdG (k := .b), hs.rd d1⟩, rfl⟩
 ·intro x Q h' q;exact st 3 [] (k_fin2 q)
 ·rintro o pre x2 rest' L I h hx' ⟨rest, hx, H, rfl⟩ hs;obtain rfl : rest = x2 :: rest' := List.append_cancel_left (hx.symm.trans hx');clear hx';obtain ⟨rest, erest⟩ : ∃ r, r = rest' := ⟨_, rfl⟩;subst erest;rw [field_Begin.l1.m] at H;refine st 4 [] (k_op (lB (hs.bl d2) 2 rfl ?_));obtain ⟨c2, H⟩ := guard_pos H;obtain ⟨c3, H⟩ := guard_pos H;refine st 1 [] (k_val (elemPtr a21 (x2.toNat * 6)) (pI (e := 89) (ik := .i64) (hs.sR d1) c2 c3) ?_);refine k_val (elemPtr a21 (x2.toNat * 6 + 0)) (pF (off := 0) (hs.sR d1) c2 c3) ?_;obtain ⟨y1, g1, q1⟩ := (hs.sR d1).toSl.seg c2 c3;obtain rfl := t_api_Cell.open_ q1;refine k_op (lC (seg_cell (f := 0) g1 rfl) ?_);refine k_spl H (fun c6 H => ?_) (fun c6 H => ?_)
  ·cases H
  refine st 4 [false] (k_fin ?_);exact ⟨_, I, ⟨rest, by simp [hx], H, rfl⟩, hs.pk (.c d0 (.c d0 (.c d0 (.c d0 (.c d0 (.c d0 (.c d0 .n)))))))⟩
 ·intro h0 hk;have key : ∃ (o : Obj), ∃ I, () = s0 ∧ St E (rQ h1.size (h1.size + 1) o :: [rB b0 [iv 0] 3]) I h0 := by
    rcases hk with ⟨o, L, I, ⟨rest, hx, H, rfl⟩, hs⟩ | ⟨o, L, I, hy, hs⟩
    · obtain rfl : rest = [] := List.append_cancel_left (hx.symm.trans (List.append_nil _).symm)
      rw [field_Begin.l1.m] at H;obtain rfl := si H;exact ⟨o, I, rfl, hs.pk (.c d0 (.c d2 .n))⟩
    · exact hy.elim
  obtain ⟨o, I, rfl, hs⟩ := key;have H := HR0;try dsimp only at H
  refine st 2 [] (k_op (sB (v := iv (-1)) (hs.f d1) cw0 ?_));intro h hs;refine st 1 [] (k_retQ (krM ?_));obtain rfl := si H;refine ⟨(hs.rqD d1).1, ?_⟩;replace hs := (hs.f d1).rqe;exact ⟨[iv (-1)], (.cons (.one (by kernel_rfl) (by kernel_rfl) ((hs.bl d0).cell (off := 0) rfl)) .nil), I, _, ⟨rfl, rfl⟩, hs.pk .n⟩
 ·rintro h0 ⟨o, L, I, hy, hs⟩;exact hy.elim
 intro i L hy;exact hy.elim
def field_Of.m (K : Nat) (x0 : api_Screen) (x1 : Int) : Option api_Attr :=
  ((field_Begin.m K x0 x1).bind fun t0 => (if t0 < 0 then (some (⟨false, false, 0, false⟩ : api_Attr)) else none))
theorem field_Of.calls {B I : Gh} {h : Heap} {K : Nat} {x0 : api_Screen} {x1 : Int} {a0 : Option Addr} {p0 : Nat} {n0 : Nat} {r : api_Attr} (H : field_Of.m K x0 x1 = some r)  :
    Fc Tryz.prog 286 #[.agg (cl_api_Screen x0 a0 n0 p0).toArray, iv x1] [rR t_api_Cell .b a0 p0 n0 x0.Cells] B I h (fun v L => v = .agg (cl_api_Attr r).toArray ∧ L = []) := by
 refine fc_of fun E hs => ?_;unfold field_Of.m at H;cases hs.nR d0;refine fn_of2 (rs := [.cell 4 87]) (N := 18) Tryz.func286 rfl rfl rfl rfl ?_;refine st 2 [] (k_op (nB hs (cl_api_Screen x0 a0 x0.Cells.length p0) ?_));intro b0 h hs;refine k_op (nA hs [.bool false, .bool false, iv 0, .bool false] (.agg #[.bool false, .bool false, iv 0, .bool false]) ?_);intro b1 h hs;refine st 3 [] (k_op (lN (hs.bl d1) 0 6 ?_));obtain ⟨hk, bk⟩ := hs.call tk0 (.c (qB d2) .n);refine st 1 [] (k_call H (fun _ m => field_Begin.calls m hk) ?_);rintro t0 _ h H ⟨I, _, ⟨rfl, rfl⟩, hk⟩;replace hs := bk hk ct0 rfl;refine st 6 [] (k_ite H (fun c0 H => ?_) (fun c0 H => ?_));rotate_left
 ·cases H
 refine st 5 [true] (k_op (sN0 hs [.bool false, .bool false, iv 0, .bool false] (ones_of rfl) ?_));intro h hs;obtain rfl := si H;exact st 1 [] (k_retQ ⟨[.agg #[.bool false, .bool false, iv 0, .bool false]], (.cons (.agg (by kernel_rfl) (by kernel_rfl) (by kernel_rfl) ((hs.bl d0).seg_ 0 4 (Nat.le_of_ble_eq_true rfl))) .nil), I, _, ⟨rfl, rfl⟩, hs.pk .n⟩)
def field_Open.m (K : Nat) (x1 : api_Screen) (x0 : Int) : Option Bool :=
  (if 0 ≤ x0 then (if x0 < (x1.Cells.length : Int) then (bif (at_ x1.Cells x0).Field then none else ((field_Of.m K x1 x0).bind fun t0 => (some (!t0.Protected)))) else none) else none)
theorem field_Open.calls {B I : Gh} {h : Heap} {K : Nat} {x0 : api_Screen} {x1 : Int} {a0 : Option Addr} {p0 : Nat} {n0 : Nat} {r : Bool} (H : field_Open.m K x0 x1 = some r)  :
    Fc Tryz.prog 260 #[.agg (cl_api_Screen x0 a0 n0 p0).toArray, iv x1] [rR t_api_Cell .b a0 p0 n0 x0.Cells] B I h (fun v L => v = .bool r ∧ L = []) := by
 refine fc_of fun E hs => ?_;unfold field_Open.m at H;cases hs.nR d0;refine fn_of (rs := [.tmp 4]) (N := 19) Tryz.func260 rfl rfl rfl rfl ?_;refine st 2 [] (k_op (nB hs (cl_api_Screen x0 a0 x0.Cells.length p0) ?_));intro b0 h hs;refine st 5 [] (k_op (lB (hs.bl d0) 2 rfl ?_));obtain ⟨c0, H⟩ := guard_pos H;obtain ⟨c1, H⟩ := guard_pos H;refine st 1 [] (k_val (elemPtr a0 (x1.toNat * 6)) (pI (e := 89) (ik := .i64) (hs.sR d1) c0 c1) ?_);refine k_val (elemPtr a0 (x1.toNat * 6 + 0)) (pF (off := 0) (hs.sR d1) c0 c1) ?_;obtain ⟨y0, g0, q0⟩ := (hs.sR d1).toSl.seg c0 c1;obtain rfl := t_api_Cell.open_ q0;refine k_op (lC (seg_cell (f := 0) g0 rfl) ?_);refine k_spl H (fun c2 H => ?_) (fun c2 H => ?_)
 ·cases H
 refine st 2 [] (k_op (lN (hs.bl d0) 0 6 ?_));obtain ⟨hk, bk⟩ := hs.call tk0 (.c (qB d1) .n);refine st 1 [] (k_call H (fun _ m => field_Of.calls m hk) ?_);rintro t0 _ h H ⟨I, _, ⟨rfl, rfl⟩, hk⟩;replace hs := bk hk ct0 rfl;obtain rfl := si H;exact st 5 [] (k_retQ ⟨_, by kernel_rfl, I, _, ⟨rfl, rfl⟩, hs.pk .n⟩)
def move_line.l1.m (K : Nat) (x1 : api_Screen) (t0 : (List Int)) : Nat → Int → Option Int
  | 0, _ => none
  | k + 1, x0 => (if x0 < (t0.length : Int) then (if 0 ≤ x0 then ((field_Open.m K x1 (at_ t0 x0)).bind fun t1 => bif t1 then (some (at_ t0 x0)) else none) else none) else none)
def move_line.m (K : Nat) (x0 : api_Screen) : Option Int :=
  (if x0.Cols ≠ 0 then ((grid_On.m x0 (w64 (x0.Cursor - (Int.tmod x0.Cursor x0.Cols))) x0.Cols).bind fun t0 => ((grid_Span.m K x0 t0 t0).bind fun t1 => (move_line.l1.m K x0 t1 K 0))) else none)
theorem move_line.calls {B I : Gh} {h : Heap} {K : Nat} {x0 : api_Screen} {a0 : Option Addr} {p0 : Nat} {n0 : Nat} {r : Int} (H : move_line.m K x0 = some r)  :
    Fc Tryz.prog 285 #[.agg (cl_api_Screen x0 a0 n0 p0).toArray] [rR t_api_Cell .b a0 p0 n0 x0.Cells] B I h (fun v L => v = iv r ∧ L = []) := by
 refine fc_of fun E hs => ?_;unfold move_line.m at H;cases hs.nR d0;refine fn_of (rs := [.tmp 2]) (N := 32) Tryz.func285 rfl rfl rfl rfl ?_;refine st 2 [] (k_op (nB hs (cl_api_Screen x0 a0 x0.Cells.length p0) ?_));intro b0 h hs;refine st 3 [] ?_;obtain ⟨hs0, bk0⟩ := hs.call tk0 (.c (qL d0) (.c (qB d1) .n));have hs := hs0;refine k_regD hs0 13 ?_;refine aG 0 rfl hs.keep (lls hs0 d0 0 6 rfl) (nmL hs0 d0) ?_;refine aRun [1] 11 hs.keep ?_;refine aL 2 rfl hs.keep (ll hs0 d0 (n := 3) rfl) (nmL hs0 d0) ?_;refine aRun [3] 9 hs.keep ?_;refine aL 4 rfl hs.keep (ll hs0 d0 (n := 3) rfl) (nmL hs0 d0) ?_;refine aRun [5] 7 hs.keep ?_;refine aL 6 rfl hs.keep (ll hs0 d0 (n := 1) rfl) (nmL hs0 d0) ?_;obtain ⟨c2, H⟩ := guard_pos H;refine aP 7 (iv (Int.tmod x0.Cursor x0.Cols)) rfl (pr_rem (k := .i64) (a := x0.Cursor) (b := x0.Cols) (by kernel_rfl) (by kernel_rfl) c2) hs.keep ?_;refine aRun [8, 9] 3 hs.keep ?_;refine aL 10 rfl hs.keep (ll hs0 d0 (n := 1) rfl) (nmL hs0 d0) ?_;obtain ⟨hk, bk⟩ := hs.call tk0 (.c (qB d1) .n);refine aO1 11 rfl (o_call H (fun _ m => grid_On.calls m hk) ?_);rintro t2 _ h H ⟨I, _, ⟨rfl, rfl⟩, hk⟩;replace hs := bk hk ct0 rfl;refine ⟨hs.keep, ?_⟩;refine aRun [12] 0 hs.keep ?_;replace hs := hs.pk .n;replace hs := bk0 hs ct0 rfl;refine aEnd ?_;refine st 3 [] (k_op (lN (hs.bl d0) 0 6 ?_));obtain ⟨hk, bk⟩ := hs.call tk0 (.c (qB d1) .n);refine st 2 [] (k_call H (fun _ m => grid_Span.calls m hk) ?_);rintro t0 _ h H ⟨I, _, ⟨a1, p1, n1, rfl, rfl⟩, hk⟩;replace hs := bk hk ct1 rfl;cases hs.nO d0;refine st 4 [] (k_loopRT hs tl0 (fun T k' ρ h => ∃ (x1 : Int), ∃ I, move_line.l1.m K x0 t0 k' x1 = some r ∧ Fits [(1, pv b0), (21, .slice a1 t0.length p1), (22, iv (t0.length : Int)), (23, iv x1)] ρ ∧ St E T I h) K ⟨0, I, H, ft, hs⟩ ?_);clear H;rintro k' ρ h ⟨x1, I, H, hf, hs⟩;cases k' with
 | zero => cases H
 | succ k =>
  rw [move_line.l1.m] at H;refine k_fits _ hf ?_ rfl;refine st 2 [] (k_ite H (fun c0 H => ?_) (fun c0 H => ?_));rotate_left
  ·cases H
  obtain ⟨c1, H⟩ := guard_pos H;refine st 8 [true] (k_val (elemPtr a1 (x1.toNat * 1)) (pI (e := 3) (ik := .i64) (hs.sO d0) c1 c0) ?_);refine k_op (lC ((hs.sO d0).cell1 c1 c0) ?_);refine st 4 [] (k_op (lN (hs.bl d1) 0 6 ?_));obtain ⟨hk, bk⟩ := hs.call tk0 (.c (qB d2) .n);refine st 1 [] (k_call H (fun _ m => field_Open.calls m hk) ?_);rintro t1 _ h H ⟨I, _, ⟨rfl, rfl⟩, hk⟩;replace hs := bk hk ct0 rfl;cases t1
  ·rw [cond_false] at H;cases H
  rw [cond_true] at H;obtain rfl := si H;exact st 7 [true] (k_retQ (krJ ⟨_, by kernel_rfl, I, _, ⟨rfl, rfl⟩, hs.pk .n⟩))
def move_to.m (K : Nat) (x0 : api_Screen) (x1 : Int) : Option Int :=
  (if x1 = 4 then ((grid_On.m x0 x0.Cursor (w64 (0 - x0.Cols))).bind fun t0 => (some t0)) else (if x1 = 2 then ((grid_On.m x0 x0.Cursor (w64 (0 - 1))).bind fun t1 => (some t1)) else (if x1 = 5 then ((grid_On.m x0 x0.Cursor x0.Cols).bind fun t2 => (some t2)) else (if x1 = 3 then ((grid_On.m x0 x0.Cursor 1).bind fun t3 => (some t3)) else (if x1 = 7 then ((field_Prev.m K x0 x0.Cursor).bind fun t4 => (some (mx 0 t4))) else (if x1 = 6 then ((field_Next.m K x0 x0.Cursor).bind fun t5 => (some (mx 0 t5))) else (if x1 = 8 then ((field_Next.m K x0 (w64 ((x0.Cells.length : Int) - 1))).bind fun t6 => (some (mx 0 t6))) else ((move_line.m K x0).bind fun t7 => (some t7)))))))))
theorem move_to.calls {B I : Gh} {h : Heap} {K : Nat} {x0 : api_Screen} {x1 : Int} {a0 : Option Addr} {p0 : Nat} {n0 : Nat} {r : Int} (H : move_to.m K x0 x1 = some r)  :
    Fc Tryz.prog 258 #[.agg (cl_api_Screen x0 a0 n0 p0).toArray, iv x1] [rR t_api_Cell .b a0 p0 n0 x0.Cells] B I h (fun v L => v = iv r ∧ L = []) := by
 refine fc_of fun E hs => ?_;unfold move_to.m at H;cases hs.nR d0;refine fn_of (rs := [.tmp 4]) (N := 55) Tryz.func258 rfl rfl rfl rfl ?_;refine st 2 [] (k_op (nB hs (cl_api_Screen x0 a0 x0.Cells.length p0) ?_));intro b0 h hs;refine st 30 [] (k_ite H (fun c0 H => ?_) (fun c0 H => ?_))
 ·refine st 6 [true] (k_op (lB (hs.bl d0) 1 rfl ?_));refine st 6 [] (k_op (lN (hs.bl d0) 0 6 ?_));refine st 1 [] (k_op (lB (hs.bl d0) 3 rfl ?_));obtain ⟨hk, bk⟩ := hs.call tk0 (.c (qB d1) .n);refine st 2 [] (k_call H (fun _ m => grid_On.calls m hk) ?_);rintro t0 _ h H ⟨I, _, ⟨rfl, rfl⟩, hk⟩;replace hs := bk hk ct0 rfl;obtain rfl := si H;exact st 2 [] (k_retQ ⟨_, by kernel_rfl, I, _, ⟨rfl, rfl⟩, hs.pk .n⟩)
 refine st 7 [false] (k_ite H (fun c1 H => ?_) (fun c1 H => ?_))
 ·refine st 7 [true] (k_op (lN (hs.bl d0) 0 6 ?_));refine st 1 [] (k_op (lB (hs.bl d0) 3 rfl ?_));obtain ⟨hk, bk⟩ := hs.call tk0 (.c (qB d1) .n);refine st 2 [] (k_call H (fun _ m => grid_On.calls m hk) ?_);rintro t1 _ h H ⟨I, _, ⟨rfl, rfl⟩, hk⟩;replace hs := bk hk ct0 rfl;obtain rfl := si H;exact st 2 [] (k_retQ ⟨_, by kernel_rfl, I, _, ⟨rfl, rfl⟩, hs.pk .n⟩)
 refine st 7 [false] (k_ite H (fun c2 H => ?_) (fun c2 H => ?_))
 ·refine st 6 [true] (k_op (lB (hs.bl d0) 1 rfl ?_));refine st 6 [] (k_op (lN (hs.bl d0) 0 6 ?_));refine st 1 [] (k_op (lB (hs.bl d0) 3 rfl ?_));obtain ⟨hk, bk⟩ := hs.call tk0 (.c (qB d1) .n);refine st 1 [] (k_call H (fun _ m => grid_On.calls m hk) ?_);rintro t2 _ h H ⟨I, _, ⟨rfl, rfl⟩, hk⟩;replace hs := bk hk ct0 rfl;obtain rfl := si H;exact st 2 [] (k_retQ ⟨_, by kernel_rfl, I, _, ⟨rfl, rfl⟩, hs.pk .n⟩)
 refine st 7 [false] (k_ite H (fun c3 H => ?_) (fun c3 H => ?_))
 ·refine st 7 [true] (k_op (lN (hs.bl d0) 0 6 ?_));refine st 1 [] (k_op (lB (hs.bl d0) 3 rfl ?_));obtain ⟨hk, bk⟩ := hs.call tk0 (.c (qB d1) .n);refine st 1 [] (k_call H (fun _ m => grid_On.calls m hk) ?_);rintro t3 _ h H ⟨I, _, ⟨rfl, rfl⟩, hk⟩;replace hs := bk hk ct0 rfl;obtain rfl := si H;exact st 2 [] (k_retQ ⟨_, by kernel_rfl, I, _, ⟨rfl, rfl⟩, hs.pk .n⟩)
 refine st 7 [false] (k_ite H (fun c4 H => ?_) (fun c4 H => ?_))
 ·refine st 7 [true] (k_op (lN (hs.bl d0) 0 6 ?_));refine st 1 [] (k_op (lB (hs.bl d0) 3 rfl ?_));obtain ⟨hk, bk⟩ := hs.call tk0 (.c (qB d1) .n);refine k_call H (fun _ m => field_Prev.calls m hk) ?_;rintro t4 _ h H ⟨I, _, ⟨rfl, rfl⟩, hk⟩;replace hs := bk hk ct0 rfl;obtain rfl := si H;exact st 3 [] (k_retQ ⟨_, by kernel_rfl, I, _, ⟨rfl, rfl⟩, hs.pk .n⟩)
 refine st 7 [false] (k_ite H (fun c6 H => ?_) (fun c6 H => ?_))
 ·refine st 7 [true] (k_op (lN (hs.bl d0) 0 6 ?_));refine st 1 [] (k_op (lB (hs.bl d0) 3 rfl ?_));obtain ⟨hk, bk⟩ := hs.call tk0 (.c (qB d1) .n);refine k_call H (fun _ m => field_Next.calls m hk) ?_;rintro t5 _ h H ⟨I, _, ⟨rfl, rfl⟩, hk⟩;replace hs := bk hk ct0 rfl;obtain rfl := si H;exact st 3 [] (k_retQ ⟨_, by kernel_rfl, I, _, ⟨rfl, rfl⟩, hs.pk .n⟩)
 refine st 6 [false] (k_ite H (fun c7 H => ?_) (fun c7 H => ?_))
 ·refine st 7 [true] (k_op (lN (hs.bl d0) 0 6 ?_));refine st 1 [] (k_op (lB (hs.bl d0) 2 rfl ?_));obtain ⟨hk, bk⟩ := hs.call tk0 (.c (qB d1) .n);refine st 2 [] (k_call H (fun _ m => field_Next.calls m hk) ?_);rintro t6 _ h H ⟨I, _, ⟨rfl, rfl⟩, hk⟩;replace hs := bk hk ct0 rfl;obtain rfl := si H;exact st 3 [] (k_retQ ⟨_, by kernel_rfl, I, _, ⟨rfl, rfl⟩, hs.pk .n⟩)
 refine st 7 [false] (k_op (lN (hs.bl d0) 0 6 ?_));obtain ⟨hk, bk⟩ := hs.call tk0 (.c (qB d1) .n);refine k_call H (fun _ m => move_line.calls m hk) ?_;rintro t7 _ h H ⟨I, _, ⟨rfl, rfl⟩, hk⟩;replace hs := bk hk ct0 rfl;obtain rfl := si H;exact st 2 [] (k_retQ ⟨_, by kernel_rfl, I, _, ⟨rfl, rfl⟩, hs.pk .n⟩)
def move_Do.m (K : Nat) (x0 : api_Screen) (x1 : Int) : Option (api_Screen × GoErr) :=
  ((move_Moves.m x1).bind fun t1 => bif t1 then (bif x0.Locked then none else ((grid_Copy.m x0).bind fun t0 => ((move_to.m K t0 x1).bind fun t2 => (some ((⟨t0.Rows, t0.Cols, t0.Cells, t2, t0.Locked, t0.Insert⟩ : api_Screen), GoErr.nil))))) else none)
theorem move_Do.calls {B I : Gh} {h : Heap} {K : Nat} {x0 : api_Screen} {x1 : Int} {a1 : Option Addr} {p1 : Nat} {n0 : Nat} {r : (api_Screen × GoErr)} (H : move_Do.m K x0 x1 = some r)  :
    Fc Tryz.prog 226 #[.agg (cl_api_Screen x0 a1 n0 p1).toArray, iv x1] [rR t_api_Cell .b a1 p1 n0 x0.Cells] B I h (fun v L => ∃ a2 p2 n1 v0, v = .tuple #[.agg (cl_api_Screen r.1 a2 n1 p2).toArray, v0] ∧ L = [rO t_api_Cell .i a2 p2 n1 r.1.Cells, rE .i v0 r.2]) := by
 refine fc_of fun E hs => ?_;unfold move_Do.m at H;cases hs.nR d0;refine fn_of2 (rs := [.cell 4 56, .tmp 5]) (N := 24) Tryz.func226 rfl rfl rfl rfl ?_;refine st 2 [] (k_op (nB hs (cl_api_Screen x0 a1 x0.Cells.length p1) ?_));intro b0 h hs;refine k_op (nA hs [iv 0, iv 0, .slice none 0 0, iv 0, .bool false, .bool false] (.agg #[iv 0, iv 0, .slice none 0 0, iv 0, .bool false, .bool false]) ?_);intro b1 h hs;refine st 7 [] (k_call H (fun _ m => move_Moves.calls m) ?_);rintro t2 _ _ H ⟨rfl, rfl⟩;cases t2
 ·rw [cond_false] at H;cases H
 rw [cond_true] at H;refine st 7 [false] (k_op (lB (hs.bl d1) 4 rfl ?_));refine k_spl H (fun c0 H => ?_) (fun c0 H => ?_)
 ·cases H
 refine st 7 [false] (k_op (lN (hs.bl d1) 0 6 ?_));obtain ⟨hk, bk⟩ := hs.call tk0 (.c (qB d2) .n);refine k_call H (fun _ m => grid_Copy.calls m hk) ?_;rintro t0 _ h H ⟨I, _, ⟨a0, p0, n2, rfl, rfl⟩, hk⟩;replace hs := bk hk ct1 rfl;cases hs.nO d0;refine k_op (sN0 (hs.f d2) (cl_api_Screen t0 a0 t0.Cells.length p0) (ones_of rfl) ?_);intro h hs;refine st 3 [] (k_op (lN (hs.bl d0) 0 6 ?_));obtain ⟨hk, bk⟩ := hs.call tk0 (.c (qO d1) .n);refine st 1 [] (k_call H (fun _ m => move_to.calls m hk) ?_);rintro t1 _ h H ⟨I, _, ⟨rfl, rfl⟩, hk⟩;replace hs := bk hk ct0 rfl;refine st 1 [] (k_op (sB (v := iv t1) hs cw3 ?_));intro h hs;refine st 3 [] (k_op (lN (hs.bl d0) 0 6 ?_));refine k_op (sN0 (hs.f d2) [iv t0.Rows, iv t0.Cols, .slice a0 t0.Cells.length p0, iv t1, .bool t0.Locked, .bool t0.Insert] (ones_of rfl) ?_);intro h hs;obtain rfl := si H;exact st 2 [] (k_retQ ⟨[.agg #[iv t0.Rows, iv t0.Cols, .slice a0 t0.Cells.length p0, iv t1, .bool t0.Locked, .bool t0.Insert], .nilIface], (.cons (.agg (by kernel_rfl) (by kernel_rfl) (by kernel_rfl) ((hs.bl d0).seg_ 0 6 (Nat.le_of_ble_eq_true rfl))) (.cons (.tmp (by kernel_rfl)) .nil)), I, _, ⟨a0, p0, t0.Cells.length, (.nilIface), rfl, rfl⟩, hs.pk (.c d2 (.f imEN .n))⟩)
def wipe_Wipes.m (x0 : Int) : Option Bool :=
  (if x0 ≥ 12 then (some (decide (x0 ≤ 14))) else (some false))
theorem wipe_Wipes.calls {x0 : Int} {h : Heap} {r : Bool} (H : wipe_Wipes.m x0 = some r)   :
    Ret Tryz.prog 227 #[iv x0] h (fun v h' => .bool r = v ∧ h' = h) := by
 unfold wipe_Wipes.m at H;refine fn_of (rs := [.tmp 2]) (N := 9) Tryz.func227 rfl rfl rfl rfl ?_;refine st 7 [] (k_ite H (fun c0 H => ?_) (fun c0 H => ?_))
 ·obtain rfl := si H;exact st 6 [] (k_retQ ⟨_, by kernel_rfl, rfl, rfl⟩)
 obtain rfl := si H;exact st 6 [] (k_retQ ⟨_, by kernel_rfl, rfl, rfl⟩)
def host_Reset.l1.m (K : Nat) (x2 : Bool) (t0 : api_Screen) : Nat → (List api_Cell) → Int → Option ((List api_Cell))
  | 0, _, _ => none
  | k + 1, x1, x0 => (letJ (α := Bool → Option ((List api_Cell))) (fun x3 => (bif x3 then (if 0 ≤ x0 then (if x0 < (x1.length : Int) then (bif x2 then none else (bif ((at_ x1 x0).Attr).Protected then none else (host_Reset.l1.m K x2 t0 k (x1.set x0.toNat (⟨(at_ x1 x0).Field, (⟨((at_ x1 x0).Attr).Protected, ((at_ x1 x0).Attr).Numeric, ((at_ x1 x0).Attr).Show, false⟩ : api_Attr), (at_ x1 x0).Char⟩ : api_Cell)) (w64 (x0 + 1))))) else none) else none) else (some (x1)))) fun j0 => (if x0 < (t0.Cells.length : Int) then (j0 true) else (j0 false)))
def host_Reset.m (K : Nat) (x0 : api_Screen) (x1 : Bool) : Option api_Screen :=
  ((grid_Copy.m x0).bind fun t0 => ((host_Reset.l1.m K x1 t0 K t0.Cells 0).bind fun x2 => (some (⟨t0.Rows, t0.Cols, x2, t0.Cursor, t0.Locked, t0.Insert⟩ : api_Screen))))
theorem host_Reset.calls {B I : Gh} {h : Heap} {K : Nat} {x3 : api_Screen} {x4 : Bool} {a2 : Option Addr} {p2 : Nat} {n2 : Nat} {r : api_Screen} (H : host_Reset.m K x3 x4 = some r)  :
    Fc Tryz.prog 238 #[.agg (cl_api_Screen x3 a2 n2 p2).toArray, .bool x4] [rR t_api_Cell .b a2 p2 n2 x3.Cells] B I h (fun v L => ∃ a4 p4 n3, v = .agg (cl_api_Screen r a4 n3 p4).toArray ∧ L = [rO t_api_Cell .i a4 p4 n3 r.Cells]) := by
 refine fc_of fun E hs => ?_;unfold host_Reset.m at H;cases hs.nR d0;refine fn_of2 (rs := [.cell 4 56]) (N := 32) Tryz.func238 rfl rfl rfl rfl ?_;refine st 2 [] (k_op (nB hs (cl_api_Screen x3 a2 x3.Cells.length p2) ?_));intro b0 h hs;refine k_op (nA hs [iv 0, iv 0, .slice none 0 0, iv 0, .bool false, .bool false] (.agg #[iv 0, iv 0, .slice none 0 0, iv 0, .bool false, .bool false]) ?_);intro b1 h hs;refine st 3 [] (k_op (lN (hs.bl d1) 0 6 ?_));obtain ⟨hk, bk⟩ := hs.call tk0 (.c (qB d2) .n);refine k_call H (fun _ m => grid_Copy.calls m hk) ?_;rintro t0 _ h H ⟨I, _, ⟨a3, p3, n4, rfl, rfl⟩, hk⟩;replace hs := bk hk ct1 rfl;cases hs.nO d0;refine k_op (sN0 (hs.f d2) (cl_api_Screen t0 a3 t0.Cells.length p3) (ones_of rfl) ?_);intro h hs;refine st 5 [] (k_op (lB (hs.bl d0) 2 rfl ?_));refine st 4 [] ?_;obtain ⟨s0, m0, HR0⟩ := bind_some H;refine k_loopT hs tl2 0 (fun T k' ρ h => ∃ (x1 : List api_Cell) (x0 : Int), ∃ a0 p0 n0 I, host_Reset.l1.m K x4 t0 k' x1 x0 = some s0 ∧ Fits [(1, .bool x4), (2, pv b0), (4, pv b1), (10, .slice a0 n0 p0), (11, iv (t0.Cells.length : Int)), (12, iv x0)] ρ ∧ St E (rO t_api_Cell .i a0 p0 n0 x1 :: rB b0 (cl_api_Screen t0 a0 n0 p0) 56 :: T) I h) (fun T ρ h => ∃ (x2 : List api_Cell), ∃ a1 p1 n1 I, x2 = s0 ∧ Fits [(2, pv b0), (4, pv b1)] ρ ∧ St E (rO t_api_Cell .i a1 p1 n1 x2 :: rB b0 (cl_api_Screen t0 a1 n1 p1) 56 :: T) I h) K ⟨t0.Cells, 0, a3, p3, t0.Cells.length, I, m0, ft, hs.pk (.c d1 (.c d0 pk0))⟩ ?_ rfl ?_;rotate_left
 ·rintro ρ h ⟨x2, a1, p1, n1, I, rfl, hf, hs⟩;have H := HR0;try dsimp only at H
  refine k_fits _ hf ?_ rfl;cases hs.nO d0;refine st 2 [] (k_op (lN (hs.bl d1) 0 6 ?_));refine k_op (sN0 (hs.f d2) (cl_api_Screen t0 a1 x2.length p1) (ones_of rfl) ?_);intro h hs;obtain rfl := si H;exact st 1 [] (k_retQ ⟨[.agg (cl_api_Screen t0 a1 x2.length p1).toArray], (.cons (.agg (by kernel_rfl) (by kernel_rfl) (by kernel_rfl) ((hs.bl d0).seg_ 0 6 (Nat.le_of_ble_eq_true rfl))) .nil), I, _, ⟨a1, p1, x2.length, rfl, rfl⟩, hs.pk (.c d1 .n)⟩)
 clear HR0 m0 H;rintro k' ρ h ⟨x1, x0, a0, p0, n0, I, H, hf, hs⟩;cases k' with
 | zero => cases H
 | succ k =>
  rw [host_Reset.l1.m] at H;refine k_fits _ hf ?_ rfl;cases hs.nO d0;refine st 1 [] (k_jF H hs (fun x5 => [(1, .bool x4), (2, pv b0), (4, pv b1), (10, .slice a0 x1.length p0), (11, iv (t0.Cells.length : Int)), (12, iv x0), (13, .bool x5)]) ?_ ?_ ?_)
  ·intro j0 H;refine st 1 [] (k_ite H (fun c2 H => ?_) (fun c2 H => ?_))
   ·exact st 1 [] (k_end ⟨true, I, H, ft, hs⟩)
   exact st 1 [] (k_end ⟨false, I, H, ft, hs⟩)
  ·intro ρ h I H hs;refine st 2 [false] (k_out rfl ?_);obtain rfl := si H;exact xE ⟨x1, a0, p0, x1.length, I, rfl, ft, hs.pk (.c d0 (.c d0 pk0))⟩
  intro ρ h I H hs;obtain ⟨c0, H⟩ := guard_pos H;obtain ⟨c1, H⟩ := guard_pos H;refine st 8 [true] (k_val (elemPtr a0 (x0.toNat * 6)) (pI (e := 89) (ik := .i64) (hs.sO d0) c0 c1) ?_);obtain ⟨y0, g0, q0⟩ := (hs.sO d0).toSl.seg c0 c1;obtain rfl := t_api_Cell.open_ q0;refine k_op (lG g0 ?_);refine k_op (nA hs [.bool false, .bool false, .bool false, iv 0, .bool false, .int .u8 0] (.agg #[.bool false, .bool false, .bool false, iv 0, .bool false, .int .u8 0]) ?_);intro b2 h hs;refine st 1 [] (k_op (sN0 hs [.bool ((at_ x1 x0).Field), .bool (((at_ x1 x0).Attr).Protected), .bool (((at_ x1 x0).Attr).Numeric), iv (((at_ x1 x0).Attr).Show), .bool (((at_ x1 x0).Attr).Modified), .int .u8 ((at_ x1 x0).Char)] (ones_of rfl) ?_));intro h hs;refine st 3 [] (k_if H (fun c3 H => ?_) (fun c3 H => ?_))
  ·cases H
  refine st 3 [] (k_op (lB (hs.bl d0) 1 rfl ?_));refine k_spl H (fun c4 H => ?_) (fun c4 H => ?_)
  ·cases H
  refine st 6 [true] (k_op (lB (hs.bl d2) 2 rfl ?_));refine st 1 [] (k_val (elemPtr a0 (x0.toNat * 6)) (pI (e := 89) (ik := .i64) (hs.sO d1) c0 c1) ?_);refine k_val (elemPtr a0 (x0.toNat * 6 + 1)) (pF (off := 1) (hs.sO d1) c0 c1) ?_;refine k_val (elemPtr a0 (x0.toNat * 6 + 1 + 3)) (pF (off := 3) (hs.sO d1) c0 c1) ?_;obtain ⟨y1, g1, q1⟩ := (hs.sO d1).toSl.seg c0 c1;obtain rfl := t_api_Cell.open_ q1;replace hs := (hs.f d1);refine k_op (sE hs 4 [.bool false] (⟨(at_ x1 x0).Field, (⟨((at_ x1 x0).Attr).Protected, ((at_ x1 x0).Attr).Numeric, ((at_ x1 x0).Attr).Show, false⟩ : api_Attr), (at_ x1 x0).Char⟩ : api_Cell) c0 c1 g1 (ones_of rfl) rfl ?_);intro h hs;exact st 6 [] (k_endL ⟨k, Nat.lt_succ_self _, (x1.set x0.toNat (⟨(at_ x1 x0).Field, (⟨((at_ x1 x0).Attr).Protected, ((at_ x1 x0).Attr).Numeric, ((at_ x1 x0).Attr).Show, false⟩ : api_Attr), (at_ x1 x0).Char⟩ : api_Cell)), (w64 (x0 + 1)), a0, p0, x1.length, I, H, ft, hs.pk (.c d0 (.c d1 pk1))⟩)
def wipe_all.l1.m (K : Nat) (x2 : api_Screen) : Nat → Int → (List api_Cell) → Option ((List api_Cell))
  | 0, _, _ => none
  | k + 1, x0, x1 => (letJ (α := Bool → Option ((List api_Cell))) (fun x3 => (bif x3 then ((field_Open.m K x2 x0).bind fun t0 => bif t0 then (if 0 ≤ x0 then (if x0 < (x1.length : Int) then (wipe_all.l1.m K x2 k (w64 (x0 + 1)) (x1.set x0.toNat (⟨(at_ x1 x0).Field, ((at_ x1 x0).Attr), 0⟩ : api_Cell))) else none) else none) else none) else (some (x1)))) fun j0 => (if x0 < (x2.Cells.length : Int) then (j0 true) else (j0 false)))
def wipe_all.m (K : Nat) (x0 : api_Screen) : Option api_Screen :=
  ((host_Reset.m K x0 false).bind fun t0 => ((wipe_all.l1.m K x0 K 0 t0.Cells).bind fun x1 => ((grid_Size.m x0).bind fun t1 => ((field_Next.m K x0 (w64 (t1 - 1))).bind fun t2 => (some (⟨t0.Rows, t0.Cols, x1, (mx 0 t2), t0.Locked, t0.Insert⟩ : api_Screen))))))
theorem wipe_all.calls {B I : Gh} {h : Heap} {K : Nat} {x2 : api_Screen} {a2 : Option Addr} {p2 : Nat} {n2 : Nat} {r : api_Screen} (H : wipe_all.m K x2 = some r)  :
    Fc Tryz.prog 259 #[.agg (cl_api_Screen x2 a2 n2 p2).toArray] [rR t_api_Cell .b a2 p2 n2 x2.Cells] B I h (fun v L => ∃ a4 p4 n3, v = .agg (cl_api_Screen r a4 n3 p4).toArray ∧ L = [rO t_api_Cell .i a4 p4 n3 r.Cells]) := by
 refine fc_of fun E hs => ?_;unfold wipe_all.m at H;cases hs.nR d0;refine fn_of2 (rs := [.cell 2 56]) (N := 30) Tryz.func259 rfl rfl rfl rfl ?_;refine st 2 [] (k_op (nB hs (cl_api_Screen x2 a2 x2.Cells.length p2) ?_));intro b1 h hs;refine k_op (nA hs [iv 0, iv 0, .slice none 0 0, iv 0, .bool false, .bool false] (.agg #[iv 0, iv 0, .slice none 0 0, iv 0, .bool false, .bool false]) ?_);intro b2 h hs;refine st 3 [] (k_op (lN (hs.bl d1) 0 6 ?_));obtain ⟨hk, bk⟩ := hs.call tk0 (.c (qB d2) .n);refine k_call H (fun _ m => host_Reset.calls m hk) ?_;rintro t0 _ h H ⟨I, _, ⟨a3, p3, n4, rfl, rfl⟩, hk⟩;replace hs := bk hk ct1 rfl;cases hs.nO d0;refine k_op (nA hs [iv 0, iv 0, .slice none 0 0, iv 0, .bool false, .bool false] (.agg #[iv 0, iv 0, .slice none 0 0, iv 0, .bool false, .bool false]) ?_);intro b0 h hs;refine k_op (sN0 hs (cl_api_Screen t0 a3 t0.Cells.length p3) (ones_of rfl) ?_);intro h hs;refine st 5 [] (k_op (lB (hs.bl d3) 2 rfl ?_));refine st 4 [] ?_;obtain ⟨s0, m0, HR0⟩ := bind_some H;refine k_loopT hs tl2 0 (fun T k' ρ h => ∃ (x0 : Int) (x1 : List api_Cell), ∃ a0 p1 n0 I, wipe_all.l1.m K x2 k' x0 x1 = some s0 ∧ Fits [(1, pv b1), (2, pv b2), (3, pv b0), (9, iv (x2.Cells.length : Int)), (10, iv x0)] ρ ∧ St E (rO t_api_Cell .i a0 p1 n0 x1 :: rB b0 (cl_api_Screen t0 a0 n0 p1) 56 :: T) I h) (fun T ρ h => ∃ (x3 : List api_Cell), ∃ a1 p0 n1 I, x3 = s0 ∧ Fits [(1, pv b1), (2, pv b2), (3, pv b0)] ρ ∧ St E (rO t_api_Cell .i a1 p0 n1 x3 :: rB b0 (cl_api_Screen t0 a1 n1 p0) 56 :: T) I h) K ⟨0, t0.Cells, a3, p3, t0.Cells.length, I, m0, ft, hs.pk (.c d1 (.c d0 pk0))⟩ ?_ rfl ?_;rotate_left
 ·rintro ρ h ⟨x3, a1, p0, n1, I, rfl, hf, hs⟩;have H := HR0;try dsimp only at H
  refine k_fits _ hf ?_ rfl;cases hs.nO d0;refine st 1 [] ?_;obtain ⟨hs0, bk0⟩ := hs.call tk0 (.c (qL d3) (.c (qB d4) .n));have hs := hs0;refine k_regD hs0 7 ?_;refine aG 0 rfl hs.keep (lls hs0 d0 0 6 rfl) (nmL hs0 d0) ?_;refine aG 1 rfl hs.keep (lls hs0 d0 0 6 rfl) (nmL hs0 d0) ?_;obtain ⟨hk, bk⟩ := hs.call tk0 (.c (qB d1) .n);refine aO1 2 rfl (o_call H (fun _ m => grid_Size.calls m hk) ?_);rintro t3 _ h H ⟨I, _, ⟨rfl, rfl⟩, hk⟩;replace hs := bk hk ct0 rfl;refine ⟨hs.keep, ?_⟩;refine aRun [3] 4 hs.keep ?_;obtain ⟨hk, bk⟩ := hs.call tk0 (.c (qB d1) .n);refine aO1 4 rfl (o_call H (fun _ m => field_Next.calls m hk) ?_);rintro t1 _ h H ⟨I, _, ⟨rfl, rfl⟩, hk⟩;replace hs := bk hk ct0 rfl;refine ⟨hs.keep, ?_⟩;refine aRun [5, 6] 1 hs.keep ?_;replace hs := hs.pk .n;replace hs := bk0 hs ct0 rfl;refine aOL 7 rfl (sB (v := iv (mx 0 t1)) (hs.f d1) cw3 ?_);intro h hs;refine aEnd ?_;refine st 2 [] (k_op (lN (hs.bl d0) 0 6 ?_));refine k_op (sN0 (hs.f d2) [iv t0.Rows, iv t0.Cols, .slice a1 x3.length p0, iv (mx 0 t1), .bool t0.Locked, .bool t0.Insert] (ones_of rfl) ?_);intro h hs;obtain rfl := si H;exact st 1 [] (k_retQ ⟨[.agg #[iv t0.Rows, iv t0.Cols, .slice a1 x3.length p0, iv (mx 0 t1), .bool t0.Locked, .bool t0.Insert]], (.cons (.agg (by kernel_rfl) (by kernel_rfl) (by kernel_rfl) ((hs.bl d0).seg_ 0 6 (Nat.le_of_ble_eq_true rfl))) .nil), I, _, ⟨a1, p0, x3.length, rfl, rfl⟩, hs.pk (.c d2 .n)⟩)
 clear HR0 m0 H;rintro k' ρ h ⟨x0, x1, a0, p1, n0, I, H, hf, hs⟩;cases k' with
 | zero => cases H
 | succ k =>
  rw [wipe_all.l1.m] at H;refine k_fits _ hf ?_ rfl;cases hs.nO d0;refine st 1 [] (k_jF H hs (fun x4 => [(1, pv b1), (2, pv b2), (3, pv b0), (9, iv (x2.Cells.length : Int)), (10, iv x0), (11, .bool x4)]) ?_ ?_ ?_)
  ·intro j0 H;refine st 1 [] (k_ite H (fun c2 H => ?_) (fun c2 H => ?_))
   ·exact st 1 [] (k_end ⟨true, I, H, ft, hs⟩)
   exact st 1 [] (k_end ⟨false, I, H, ft, hs⟩)
  ·intro ρ h I H hs;refine st 2 [false] (k_out rfl ?_);obtain rfl := si H;exact xE ⟨x1, a0, p1, x1.length, I, rfl, ft, hs.pk (.c d0 (.c d0 pk0))⟩
  intro ρ h I H hs;refine st 12 [true] (k_op (lN (hs.bl d3) 0 6 ?_));obtain ⟨hk, bk⟩ := hs.call tk0 (.c (qB d4) .n);refine st 1 [] (k_call H (fun _ m => field_Open.calls m hk) ?_);rintro t2 _ h H ⟨I, _, ⟨rfl, rfl⟩, hk⟩;replace hs := bk hk ct0 rfl;cases t2
  ·rw [cond_false] at H;cases H
  rw [cond_true] at H;refine st 4 [true] (k_op (lB (hs.bl d1) 2 rfl ?_));obtain ⟨c0, H⟩ := guard_pos H;obtain ⟨c1, H⟩ := guard_pos H;refine st 1 [] (k_val (elemPtr a0 (x0.toNat * 6)) (pI (e := 89) (ik := .i64) (hs.sO d0) c0 c1) ?_);refine k_val (elemPtr a0 (x0.toNat * 6 + 5)) (pF (off := 5) (hs.sO d0) c0 c1) ?_;obtain ⟨y0, g0, q0⟩ := (hs.sO d0).toSl.seg c0 c1;obtain rfl := t_api_Cell.open_ q0;refine k_op (sE hs 5 [.int .u8 0] (⟨(at_ x1 x0).Field, ((at_ x1 x0).Attr), 0⟩ : api_Cell) c0 c1 g0 (ones_of rfl) rfl ?_);intro h hs;exact st 6 [] (k_endL ⟨k, Nat.lt_succ_self _, (w64 (x0 + 1)), (x1.set x0.toNat (⟨(at_ x1 x0).Field, ((at_ x1 x0).Attr), 0⟩ : api_Cell)), a0, p1, x1.length, I, H, ft, hs.pk (.c d0 (.c d0 pk0))⟩)
def field_Cells.l1.m (K : Nat) (x1 : api_Screen) : Nat → Int → (List Int) → Option ((List Int))
  | 0, _, _ => none
  | k + 1, x0, x2 => (letJ (α := Bool → Option ((List Int))) (fun x3 => (bif x3 then ((app x2 [x0]).bind fun l0 => (field_Cells.l1.m K x1 k (w64 (x0 + 1)) l0)) else (some (x2)))) fun j0 => (if x0 < (x1.Cells.length : Int) then (j0 true) else (j0 false)))
def field_Cells.m (K : Nat) (x0 : api_Screen) (x1 : Int) : Option (List Int) :=
  ((field_Begin.m K x0 x1).bind fun t0 => (if t0 < 0 then ((field_Cells.l1.m K x0 K 0 []).bind fun x2 => (some x2)) else none))
theorem field_Cells.calls {B I : Gh} {h : Heap} {K : Nat} {x0 : api_Screen} {x4 : Int} {a0 : Option Addr} {p0 : Nat} {n2 : Nat} {r : (List Int)} (H : field_Cells.m K x0 x4 = some r)  :
    Fc Tryz.prog 270 #[.agg (cl_api_Screen x0 a0 n2 p0).toArray, iv x4] [rR t_api_Cell .b a0 p0 n2 x0.Cells] B I h (fun v L => ∃ a4 p4 n3, v = .slice a4 n3 p4 ∧ L = [rO (tInt .i64) .i a4 p4 n3 r]) := by
 refine fc_of fun E hs => ?_;unfold field_Cells.m at H;cases hs.nR d0;refine fn_rangeW1 (args := [.agg (cl_api_Screen x0 a0 x0.Cells.length p0).toArray, iv x4]) (rs := [.tmp 4]) (N := 41) [_, _, _, _] Tryz.func270 rfl rfl rfl rfl ?_;refine st 1 [] (k_op (nB hs (cl_api_Screen x0 a0 x0.Cells.length p0) ?_));intro b1 h hs;refine st 3 [] (k_op (nA hs [.slice none 0 0] (.slice none 0 0) ?_));intro b0 h hs;refine st 2 [] (k_op (lN (hs.bl d1) 0 6 ?_));obtain ⟨hk, bk⟩ := hs.call tk0 (.c (qB d2) .n);refine st 1 [] (k_call H (fun _ m => field_Begin.calls m hk) ?_);rintro t0 _ h H ⟨I, _, ⟨rfl, rfl⟩, hk⟩;replace hs := bk hk ct0 rfl;refine st 5 [] (k_ite H (fun c0 H => ?_) (fun c0 H => ?_));rotate_left
 ·cases H
 refine st 6 [true] (k_op (lB (hs.bl d1) 2 rfl ?_));refine st 4 [] ?_;obtain ⟨s0, m0, HR0⟩ := bind_some H;refine k_loopT hs tl1 0 (fun T k' ρ h => ∃ (x1 : Int) (x2 : List Int), ∃ a1 p1 n0 I, field_Cells.l1.m K x0 k' x1 x2 = some s0 ∧ Fits [(5, pv b0), (16, iv (x0.Cells.length : Int)), (17, iv x1)] ρ ∧ St E (rO (tInt .i64) .i a1 p1 n0 x2 :: rB b0 [.slice a1 n0 p1] 265 :: T) I h) (fun T ρ h => ∃ (x3 : List Int), ∃ a2 p2 n1 I, x3 = s0 ∧ Fits [(5, pv b0)] ρ ∧ St E (rO (tInt .i64) .i a2 p2 n1 x3 :: rB b0 [.slice a2 n1 p2] 265 :: T) I h) K ⟨0, [], none, 0, 0, I, m0, ft, hs.pk (.f imON (.c d0 pk0))⟩ ?_ rfl ?_;rotate_left
 ·rintro ρ h ⟨x3, a2, p2, n1, I, rfl, hf, hs⟩;have H := HR0;try dsimp only at H
  refine k_fits _ hf ?_ rfl;cases hs.nO d0;refine st 2 [] (k_op (lB (hs.bl d1) 0 rfl ?_));obtain rfl := si H;exact st 2 [] (k_retQ (krF ⟨_, by kernel_rfl, I, _, ⟨a2, p2, x3.length, rfl, rfl⟩, hs.pk (.c d0 .n)⟩))
 clear HR0 m0 H;rintro k' ρ h ⟨x1, x2, a1, p1, n0, I, H, hf, hs⟩;cases k' with
 | zero => cases H
 | succ k =>
  rw [field_Cells.l1.m] at H;refine k_fits _ hf ?_ rfl;cases hs.nO d0;refine st 1 [] (k_jF H hs (fun x5 => [(5, pv b0), (16, iv (x0.Cells.length : Int)), (17, iv x1), (18, .bool x5)]) ?_ ?_ ?_)
  ·intro j0 H;refine st 1 [] (k_ite H (fun c1 H => ?_) (fun c1 H => ?_))
   ·exact st 1 [] (k_end ⟨true, I, H, ft, hs⟩)
   exact st 1 [] (k_end ⟨false, I, H, ft, hs⟩)
  ·intro ρ h I H hs;refine st 2 [false] (k_out rfl ?_);obtain rfl := si H;exact xE ⟨x2, a1, p1, x2.length, I, rfl, ft, hs.pk (.c d0 (.c d0 pk0))⟩
  intro ρ h I H hs;refine st 11 [true] (k_op (lB (hs.bl d1) 0 rfl ?_));refine st 1 [] (k_op (nS (e := 3) hs .i (tInt .i64) ([x1] : List Int) [iv x1] 1 (iv 0) (Reps.int (I := (Cl.G .i E.B I)) (k := .i64) (l := [x1])) ?_));intro b2 h hs;replace hs := (hs.f d1);obtain ⟨l0, m1, H⟩ := bind_some H;refine k_op (aO (e := 3) (bytes := 8) hs (hs.sO d1) m1 ?_);intro a3 p3 h hs;refine k_op (sB (v := .slice a3 l0.length p3) (hs.f d2) cw0 ?_);intro h hs;exact st 6 [] (k_endL ⟨k, Nat.lt_succ_self _, (w64 (x1 + 1)), l0, a3, p3, l0.length, I, H, ft, hs.pk (.c d1 (.c d0 pk1))⟩)
def slices_Index_int.l1.m (K : Nat) (x1 : (List Int)) (x2 : Int) : Nat → Int → Option Int
  | 0, _ => none
  | k + 1, x0 => (if x0 < (x1.length : Int) then (if 0 ≤ x0 then (if x2 = (at_ x1 x0) then (some x0) else none) else none) else none)
def slices_Index_int.m (K : Nat) (x0 : (List Int)) (x1 : Int) : Option Int :=
  (slices_Index_int.l1.m K x0 x1 K 0)
theorem slices_Index_int.calls {G : Gh} {K : Nat} {x0 : (List Int)} {x1 : Int} {a0 : Option Addr} {p0 : Nat} {n0 : Nat} {h : Heap} {r : Int} (H : slices_Index_int.m K x0 x1 = some r)  (s0 : Sn (tInt .i64) G h a0 p0 n0 x0) :
    Ret Tryz.prog 287 #[.slice a0 n0 p0, iv x1] h (fun v h' => iv r = v ∧ h' = h) := by
 unfold slices_Index_int.m at H;obtain rfl := s0.len.symm;refine fn_of (rs := [.tmp 4]) (N := 19) Tryz.func287 rfl rfl rfl rfl ?_;refine st 12 [] (k_loopR (fun k' ρ h0 => ∃ (x2 : Int), slices_Index_int.l1.m K x0 x1 k' x2 = some r ∧ Fits [(0, .slice a0 x0.length p0), (1, iv x1), (7, iv (x0.length : Int)), (8, iv x2)] ρ ∧ h = h0) K ⟨0, H, ft, rfl⟩ ?_);clear H;rintro k' ρ h0 ⟨x2, H, hf, rfl⟩;cases k' with
 | zero => cases H
 | succ k =>
  rw [slices_Index_int.l1.m] at H;refine k_fits _ hf ?_ rfl;refine st 2 [] (k_ite H (fun c0 H => ?_) (fun c0 H => ?_));rotate_left
  ·cases H
  obtain ⟨c1, H⟩ := guard_pos H;refine st 16 [true] (k_val (elemPtr a0 (x2.toNat * 1)) (pI (e := 3) (ik := .i64) s0 c1 c0) ?_);refine k_op (lC (s0.cell1 c1 c0) ?_);refine k_ite H (fun c2 H => ?_) (fun c2 H => ?_)
  ·obtain rfl := si H;exact st 7 [true] (k_retQ (krJ ⟨_, by kernel_rfl, rfl, rfl⟩))
  cases H
end Go.Proofs.YtjkbhpokboolpaaGreatDoor.Sx
