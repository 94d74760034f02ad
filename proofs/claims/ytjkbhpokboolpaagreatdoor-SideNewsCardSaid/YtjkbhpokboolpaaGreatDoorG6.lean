import Derived.Test.YtjkbhpokboolpaaGreatDoorProg
import Derived.Test.YtjkbhpokboolpaaGreatDoorV4
import Derived.Test.YtjkbhpokboolpaaGreatDoorV5
import Derived.Test.YtjkbhpokboolpaaGreatDoorVF
import Derived.Test.YtjkbhpokboolpaaGreatDoorV6
import Derived.Test.YtjkbhpokboolpaaGreatDoorV7
import Derived.Test.YtjkbhpokboolpaaGreatDoorV9
import Derived.Test.YtjkbhpokboolpaaGreatDoorVD
import Derived.Test.YtjkbhpokboolpaaGreatDoorVC
import Derived.Test.YtjkbhpokboolpaaGreatDoorG0
import Derived.Test.YtjkbhpokboolpaaGreatDoorG4
import Derived.Test.YtjkbhpokboolpaaGreatDoorG5
namespace Go.Proofs.YtjkbhpokboolpaaGreatDoor.Sx
open Go
set_option maxRecDepth 100000
set_option maxHeartbeats 4000000
def side_Client_one.m (K : Nat) (x0 : side_Client) (x1 : (List Int)) : Option (Bool × side_Client) :=
  ((grid_Size.m x0.s').bind fun t50 => ((stream_Read.m K x1 t50).bind fun t51 => (if t51.2 = GoErr.nil then (letJ (α := Int → Int → Int → ByteArray → Int → Int → Int → Int → Int → (List api_Cell) → Int → Bool → Bool → (List (List Int)) → line_Line → Option (Bool × side_Client)) (fun (x135 : Int) (x136 : Int) (x137 : Int) (x138 : ByteArray) (x139 : Int) (x140 : Int) (x141 : Int) (x142 : Int) (x143 : Int) (x144 : List api_Cell) (x149 : Int) (x150 : Bool) (x151 : Bool) (x152 : List (List Int)) (x157 : line_Line) => ((slices_Clone_bytes.m x1).bind fun t167 => ((app x0.events' [(⟨true, (⟨0, 0⟩ : api_Key), 0, t167⟩ : api_Event)]).bind fun l174 => (some (true, (⟨(⟨x0.side'.key', (⟨x0.side'.gate'.Key, x135, (⟨x136, x137⟩ : api_Seen), (⟨x138, x139⟩ : api_Peer)⟩ : roam_Gate), x157, x140, x141⟩ : side_side), (⟨x142, x143, x144, x149, x150, x151⟩ : api_Screen), x0.todo', x152, l174⟩ : side_Client)))))) fun (j166 : Int → Int → Int → ByteArray → Int → Int → Int → Int → Int → (List api_Cell) → Int → Bool → Bool → (List (List Int)) → line_Line → Option (Bool × side_Client)) => (if t51.1.Cmd = 242 then ((side_Client_answer.m K x0 t51.1.Cmd).bind fun t63 => bif t63.1 then (j166 t63.2.side'.gate'.Dir t63.2.side'.gate'.Seen.Top t63.2.side'.gate'.Seen.Bits t63.2.side'.gate'.Peer.Addr t63.2.side'.gate'.Peer.Seq t63.2.side'.dir' t63.2.side'.seq' t63.2.s'.Rows t63.2.s'.Cols t63.2.s'.Cells t63.2.s'.Cursor t63.2.s'.Locked t63.2.s'.Insert t63.2.sent' t63.2.side'.line') else (some (false, (⟨(⟨x0.side'.key', (⟨x0.side'.gate'.Key, t63.2.side'.gate'.Dir, t63.2.side'.gate'.Seen, t63.2.side'.gate'.Peer⟩ : roam_Gate), t63.2.side'.line', t63.2.side'.dir', t63.2.side'.seq'⟩ : side_side), t63.2.s', x0.todo', t63.2.sent', x0.events'⟩ : side_Client)))) else (if t51.1.Cmd = 246 then ((side_Client_answer.m K x0 t51.1.Cmd).bind fun t82 => bif t82.1 then (j166 t82.2.side'.gate'.Dir t82.2.side'.gate'.Seen.Top t82.2.side'.gate'.Seen.Bits t82.2.side'.gate'.Peer.Addr t82.2.side'.gate'.Peer.Seq t82.2.side'.dir' t82.2.side'.seq' t82.2.s'.Rows t82.2.s'.Cols t82.2.s'.Cells t82.2.s'.Cursor t82.2.s'.Locked t82.2.s'.Insert t82.2.sent' t82.2.side'.line') else (some (false, (⟨(⟨x0.side'.key', (⟨x0.side'.gate'.Key, t82.2.side'.gate'.Dir, t82.2.side'.gate'.Seen, t82.2.side'.gate'.Peer⟩ : roam_Gate), t82.2.side'.line', t82.2.side'.dir', t82.2.side'.seq'⟩ : side_side), t82.2.s', x0.todo', t82.2.sent', x0.events'⟩ : side_Client)))) else (letJ (α := Int → Int → (List api_Cell) → Int → Bool → Bool → GoErr → Option (Bool × side_Client)) (fun (x117 : Int) (x118 : Int) (x119 : List api_Cell) (x124 : Int) (x125 : Bool) (x126 : Bool) (x127 : GoErr) => (if x127 = GoErr.nil then (j166 x0.side'.gate'.Dir x0.side'.gate'.Seen.Top x0.side'.gate'.Seen.Bits x0.side'.gate'.Peer.Addr x0.side'.gate'.Peer.Seq x0.side'.dir' x0.side'.seq' x117 x118 x119 x124 x125 x126 x0.sent' x0.side'.line') else (j166 x0.side'.gate'.Dir x0.side'.gate'.Seen.Top x0.side'.gate'.Seen.Bits x0.side'.gate'.Peer.Addr x0.side'.gate'.Peer.Seq x0.side'.dir' x0.side'.seq' x0.s'.Rows x0.s'.Cols x0.s'.Cells x0.s'.Cursor x0.s'.Locked x0.s'.Insert x0.sent' x0.side'.line'))) fun (j130 : Int → Int → (List api_Cell) → Int → Bool → Bool → GoErr → Option (Bool × side_Client)) => ((host_Do.m K x0.s' t51.1).bind fun t100 => (j130 t100.1.Rows t100.1.Cols t100.1.Cells t100.1.Cursor t100.1.Locked t100.1.Insert t100.2)))))) else (some (true, x0)))))
theorem side_Client_one.calls {B I : Gh} {h : Heap} {K : Nat} {x0 : side_Client} {x1 : (List Int)} {b0 : Nat} {v21 : Value} {v22 : Value} {b23 : Nat} {a24 : Option Addr} {p25 : Nat} {n26 : Nat} {b28 : Nat} {a29 : Option Addr} {p30 : Nat} {n31 : Nat} {a33 : Option Addr} {p34 : Nat} {n35 : Nat} {v37 : Value} {a38 : Option Addr} {p39 : Nat} {n40 : Nat} {a42 : Option Addr} {p43 : Nat} {n44 : Nat} {a46 : Option Addr} {p47 : Nat} {n48 : Nat} {r : (Bool × side_Client)} (H : side_Client_one.m K x0 x1 = some r)  :
    Fc Tryz.prog 136 #[pv b0, .slice a46 n48 p47] [rB b0 [v21, v22, iv x0.side'.gate'.Dir, iv x0.side'.gate'.Seen.Top, .int .u64 x0.side'.gate'.Seen.Bits, .string x0.side'.gate'.Peer.Addr, iv x0.side'.gate'.Peer.Seq, pv b23, iv x0.side'.dir', iv x0.side'.seq', iv x0.s'.Rows, iv x0.s'.Cols, .slice a33 n35 p34, iv x0.s'.Cursor, .bool x0.s'.Locked, .bool x0.s'.Insert, v37, .slice a38 n40 p39, .slice a42 n44 p43] 78, rB b23 [.slice a24 n26 p25, iv x0.side'.line'.given', iv x0.side'.line'.await', .map (some b28), .slice a29 n31 p30, iv x0.side'.line'.wait', iv x0.side'.line'.left', .bool x0.side'.line'.owes'] 239, rO t_api_Pack .i a24 p25 n26 x0.side'.line'.queue', rM t_api_Pack b28 x0.side'.line'.kept', rO (tInt .u8) .i a29 p30 n31 x0.side'.line'.coming', rO (tSl (tInt .u8)) .i a38 p39 n40 x0.sent', rO t_api_Event .i a42 p43 n44 x0.events', rR t_api_Cell .i a33 p34 n35 x0.s'.Cells, rR (tInt .u8) .b a46 p47 n48 x1] B I h (fun v L => ∃ a180 p181 n182 a184 p185 n186 a188 p189 n190 a192 p193 n194 a196 p197 n198, v = .bool r.1 ∧ L = [rB b0 [v21, v22, iv r.2.side'.gate'.Dir, iv r.2.side'.gate'.Seen.Top, .int .u64 r.2.side'.gate'.Seen.Bits, .string r.2.side'.gate'.Peer.Addr, iv r.2.side'.gate'.Peer.Seq, pv b23, iv r.2.side'.dir', iv r.2.side'.seq', iv r.2.s'.Rows, iv r.2.s'.Cols, .slice a188 n190 p189, iv r.2.s'.Cursor, .bool r.2.s'.Locked, .bool r.2.s'.Insert, v37, .slice a192 n194 p193, .slice a196 n198 p197] 78, rB b23 [.slice a180 n182 p181, iv r.2.side'.line'.given', iv r.2.side'.line'.await', .map (some b28), .slice a184 n186 p185, iv r.2.side'.line'.wait', iv r.2.side'.line'.left', .bool r.2.side'.line'.owes'] 239, rO t_api_Pack .i a180 p181 n182 r.2.side'.line'.queue', rM t_api_Pack b28 r.2.side'.line'.kept', rO (tInt .u8) .i a184 p185 n186 r.2.side'.line'.coming', rR t_api_Cell .i a188 p189 n190 r.2.s'.Cells, rO (tSl (tInt .u8)) .i a192 p193 n194 r.2.sent', rO t_api_Event .i a196 p197 n198 r.2.events']) := by
 refine fc_of fun E hs => ?_
 unfold side_Client_one.m at H
 cases hs.nO d2
 cases hs.nO d4
 cases hs.nO d5
 cases hs.nO d6
 cases hs.nR d7
 cases hs.nR d8
 refine fn_of (rs := [.tmp 4]) (N := 59) Tryz.func136 rfl rfl rfl rfl ?_
 refine st 10 [] (k_op (lN (hs.bl d0) 10 6 ?_))
 obtain ⟨hk, bk⟩ := hs.call tk0 (.c (qI d7) .n)
 refine k_call H (fun _ m => grid_Size.calls m hk) ?_
 rintro t50 _ h H ⟨I, _, ⟨rfl, rfl⟩, hk⟩
 replace hs := bk hk ct0 rfl
 obtain ⟨hk, bk⟩ := hs.call tk0 (.c (qB d8) .n)
 refine k_call H (fun _ m => stream_Read.calls m hk) ?_
 rintro t51 _ h H ⟨I, _, ⟨a52, p53, n54, v56, rfl, rfl⟩, hk⟩
 replace hs := bk hk ct2 rfl
 cases hs.nO d0
 refine st 3 [] (k_op (nA hs [iv 0, .bool false, .bool false, .bool false, .slice none 0 0] (.agg #[iv 0, .bool false, .bool false, .bool false, .slice none 0 0]) ?_))
 intro b58 h hs
 refine k_op (sN0 hs [iv t51.1.Cmd, .bool t51.1.Wcc.Alarm, .bool t51.1.Wcc.Unlock, .bool t51.1.Wcc.Reset, .slice a52 t51.1.Orders.length p53] (ones_of rfl) ?_)
 intro h hs
 rcases (hs.er d2).cases with ⟨c59, rfl⟩ | ⟨c59, t60, u61, rfl⟩
 rotate_left
 ·rw [if_neg c59] at H
  obtain rfl := si H
  exact st 13 [true] (k_retQ ⟨_, by kernel_rfl, I, _, ⟨a24, p25, x0.side'.line'.queue'.length, a29, p30, x0.side'.line'.coming'.length, a33, p34, x0.s'.Cells.length, a38, p39, x0.sent'.length, a42, p43, x0.events'.length, rfl, rfl⟩, hs.pk (.c d3 (.c d3 (.c d3 (.c d3 (.c d3 (.c d5 (.c d3 (.c d3 .n))))))))⟩)
 rw [if_pos c59] at H
 refine st 11 [false] ?_
 obtain ⟨j166, e179, H⟩ := letJ_some H
 refine k_join (fun ρ h => ∃ (x135 : Int) (x136 : Int) (x137 : Int) (x138 : ByteArray) (x139 : Int) (x140 : Int) (x141 : Int) (x142 : Int) (x143 : Int) (x144 : List api_Cell) (x149 : Int) (x150 : Bool) (x151 : Bool) (x152 : List (List Int)) (x157 : line_Line), ∃ a145 p146 n147 a153 p154 n155 a158 p159 n160 a162 p163 n164 I, j166 x135 x136 x137 x138 x139 x140 x141 x142 x143 x144 x149 x150 x151 x152 x157 = some r ∧ Fits [(0, pv b0), (1, .slice a46 x1.length p47)] ρ ∧ St E [rR t_api_Cell .i a145 p146 n147 x144, rO (tSl (tInt .u8)) .i a153 p154 n155 x152, rO t_api_Event .i a42 p43 x0.events'.length x0.events', rB b0 [v21, v22, iv x135, iv x136, .int .u64 x137, .string x138, iv x139, pv b23, iv x140, iv x141, iv x142, iv x143, .slice a145 n147 p146, iv x149, .bool x150, .bool x151, v37, .slice a153 n155 p154, .slice a42 x0.events'.length p43] 78, rB b23 [.slice a158 n160 p159, iv x157.given', iv x157.await', .map (some b28), .slice a162 n164 p163, iv x157.wait', iv x157.left', .bool x157.owes'] 239, rO t_api_Pack .i a158 p159 n160 x157.queue', rM t_api_Pack b28 x157.kept', rO (tInt .u8) .i a162 p163 n164 x157.coming', rR (tInt .u8) .b a46 p47 x1.length x1] I h) ?_ ?_
 rotate_left
 ·clear H
  rintro ρ h ⟨x135, x136, x137, x138, x139, x140, x141, x142, x143, x144, x149, x150, x151, x152, x157, a145, p146, n147, a153, p154, n155, a158, p159, n160, a162, p163, n164, I, H, hf, hs⟩
  refine k_fits _ hf ?_ rfl
  subst e179
  try dsimp only at H
  cases hs.nR d0
  cases hs.nO d1
  cases hs.nO d5
  cases hs.nO d7
  refine st 1 [] ?_
  obtain ⟨hs0, bk0⟩ := (hs.f d2).call tk1 (.c (qL d2) (.c (qB d7) .n))
  have hs := hs0
  refine k_regD hs0 10 ?_
  refine aRun [0, 1, 2, 3] 9 hs.keep ?_
  refine aL 4 rfl hs.keep (ll hs0 d1 (n := 18) rfl) (nmL hs0 d1) ?_
  refine aRun [5] 7 hs.keep ?_
  obtain ⟨hk, bk⟩ := hs.call tk0 (.c (qB d2) .n)
  refine aO1 6 rfl (o_call H (fun _ m => slices_Clone_bytes.calls m hk) ?_)
  rintro t167 _ h H ⟨I, _, ⟨a168, p169, n170, rfl, rfl⟩, hk⟩
  replace hs := bk hk ct1 rfl
  cases hs.nO d0
  refine ⟨hs.keep, ?_⟩
  obtain ⟨I, hs⟩ := hs.fO
  refine aRun [7] 5 hs.keep ?_
  refine aO1 8 rfl (nS (e := 116) hs .i t_api_Event ([(⟨true, (⟨0, 0⟩ : api_Key), 0, t167⟩ : api_Event)] : List api_Event) [.bool true, iv 0, .int .u8 0, iv 0, .slice a168 t167.length p169] 5 (.agg #[.bool false, iv 0, .int .u8 0, iv 0, .slice none 0 0]) (Reps.cons (T := t_api_Event) (c := [.bool true, iv 0, .int .u8 0, iv 0, .slice a168 t167.length p169]) (x := (⟨true, (⟨0, 0⟩ : api_Key), 0, t167⟩ : api_Event)) ⟨_, _, _, rfl, (hs.g d0)⟩ (.nil : Reps t_api_Event (Cl.G .i E.B I) h [] [])) ?_)
  intro b172 h hs
  refine ⟨hs.keep, ?_⟩
  replace hs := (hs.f d2)
  obtain ⟨l174, m175, H⟩ := bind_some H
  refine aO1 9 rfl (aO (e := 116) (bytes := 56) hs (hs.sO d1) m175 ?_)
  intro a176 p177 h hs
  refine ⟨hs.keep, ?_⟩
  replace hs := hs.pk (.c d0 (.c d0 (.c d0 .n)))
  replace hs := bk0 hs ct3 rfl
  refine aOL 10 rfl (owp_pure (pv b0) (by kernel_rfl) ?_)
  refine aOL 11 rfl (owp_pure (.pointer (some ⟨b0, 18, none⟩)) (by kernel_rfl) ?_)
  refine aOL 12 rfl (sB (v := .slice a176 l174.length p177) (hs.f d5) cw18 ?_)
  intro h hs
  refine aEnd ?_
  obtain rfl := si H
  exact st 4 [] (k_retQ ⟨_, by kernel_rfl, I, _, ⟨a158, p159, x157.queue'.length, a162, p163, x157.coming'.length, a145, p146, x144.length, a153, p154, x152.length, a176, p177, l174.length, rfl, rfl⟩, hs.pk (.c d0 (.c d5 (.c d5 (.c d5 (.c d5 (.c d3 (.c d3 (.c d0 .n))))))))⟩)
 refine st 3 [] (k_op (lB (hs.bl d0) 0 rfl ?_))
 refine st 11 [] (k_ite H (fun c62 H => ?_) (fun c62 H => ?_))
 ·refine st 10 [true] (k_op (lB (hs.bl d0) 0 rfl ?_))
  obtain ⟨hk, bk⟩ := ((((((hs.f d8).f d8).f d8).f d8).f d8).f d8).call tk6 (.c (qK d4) .n)
  refine k_call H (fun _ m => side_Client_answer.calls m hk) ?_
  rintro t63 _ h H ⟨I, _, ⟨a64, p65, n66, a68, p69, n70, a72, p73, n74, a76, p77, n78, rfl, rfl⟩, hk⟩
  replace hs := bk hk (.s ct6) rfl
  cases hs.nO d2
  cases hs.nO d4
  cases hs.nR d5
  cases hs.nO d6
  refine k_spl H (fun c80 H => ?_) (fun c80 H => ?_)
  ·exact st 5 [false] (k_end ⟨t63.2.side'.gate'.Dir, t63.2.side'.gate'.Seen.Top, t63.2.side'.gate'.Seen.Bits, t63.2.side'.gate'.Peer.Addr, t63.2.side'.gate'.Peer.Seq, t63.2.side'.dir', t63.2.side'.seq', t63.2.s'.Rows, t63.2.s'.Cols, t63.2.s'.Cells, t63.2.s'.Cursor, t63.2.s'.Locked, t63.2.s'.Insert, t63.2.sent', t63.2.side'.line', a72, p73, t63.2.s'.Cells.length, a76, p77, t63.2.sent'.length, a64, p65, t63.2.side'.line'.queue'.length, a68, p69, t63.2.side'.line'.coming'.length, I, H, ft, hs.pk (.c d5 (.c d5 (.c d8 (.c d0 (.c d0 (.c d0 (.c d0 (.c d0 (.c d4 .n)))))))))⟩)
  obtain rfl := si H
  exact st 7 [true] (k_retQ (krJ ⟨_, by kernel_rfl, I, _, ⟨a64, p65, t63.2.side'.line'.queue'.length, a68, p69, t63.2.side'.line'.coming'.length, a72, p73, t63.2.s'.Cells.length, a76, p77, t63.2.sent'.length, a42, p43, x0.events'.length, rfl, rfl⟩, hs.pk (.c d0 (.c d0 (.c d0 (.c d0 (.c d0 (.c d0 (.c d0 (.c d3 .n))))))))⟩))
 refine st 6 [false] (k_ite H (fun c81 H => ?_) (fun c81 H => ?_))
 ·refine st 9 [true] (k_op (lB (hs.bl d0) 0 rfl ?_))
  obtain ⟨hk, bk⟩ := ((((((hs.f d8).f d8).f d8).f d8).f d8).f d8).call tk6 (.c (qK d4) .n)
  refine k_call H (fun _ m => side_Client_answer.calls m hk) ?_
  rintro t82 _ h H ⟨I, _, ⟨a83, p84, n85, a87, p88, n89, a91, p92, n93, a95, p96, n97, rfl, rfl⟩, hk⟩
  replace hs := bk hk (.s ct6) rfl
  cases hs.nO d2
  cases hs.nO d4
  cases hs.nR d5
  cases hs.nO d6
  refine k_spl H (fun c99 H => ?_) (fun c99 H => ?_)
  ·exact st 5 [false] (k_end ⟨t82.2.side'.gate'.Dir, t82.2.side'.gate'.Seen.Top, t82.2.side'.gate'.Seen.Bits, t82.2.side'.gate'.Peer.Addr, t82.2.side'.gate'.Peer.Seq, t82.2.side'.dir', t82.2.side'.seq', t82.2.s'.Rows, t82.2.s'.Cols, t82.2.s'.Cells, t82.2.s'.Cursor, t82.2.s'.Locked, t82.2.s'.Insert, t82.2.sent', t82.2.side'.line', a91, p92, t82.2.s'.Cells.length, a95, p96, t82.2.sent'.length, a83, p84, t82.2.side'.line'.queue'.length, a87, p88, t82.2.side'.line'.coming'.length, I, H, ft, hs.pk (.c d5 (.c d5 (.c d8 (.c d0 (.c d0 (.c d0 (.c d0 (.c d0 (.c d4 .n)))))))))⟩)
  obtain rfl := si H
  exact st 7 [true] (k_retQ (krJ ⟨_, by kernel_rfl, I, _, ⟨a83, p84, t82.2.side'.line'.queue'.length, a87, p88, t82.2.side'.line'.coming'.length, a91, p92, t82.2.s'.Cells.length, a95, p96, t82.2.sent'.length, a42, p43, x0.events'.length, rfl, rfl⟩, hs.pk (.c d0 (.c d0 (.c d0 (.c d0 (.c d0 (.c d0 (.c d0 (.c d3 .n))))))))⟩))
 refine st 7 [false] ?_
 obtain ⟨j130, e134, H⟩ := letJ_some H
 refine k_joinT (fun T ρ h => ∃ (x117 : Int) (x118 : Int) (x119 : List api_Cell) (x124 : Int) (x125 : Bool) (x126 : Bool) (x127 : GoErr), ∃ b116 a120 p121 n122 v128 I, j130 x117 x118 x119 x124 x125 x126 x127 = some r ∧ Fits [(0, pv b0), (1, .slice a46 x1.length p47), (7, pv b116), (8, v128)] ρ ∧ St E (rR t_api_Cell .i a120 p121 n122 x119 :: rB b116 [iv x117, iv x118, .slice a120 n122 p121, iv x124, .bool x125, .bool x126] 56 :: rE .i v128 x127 :: T) I h) hs tl0 ?_ ?_
 rotate_left
 ·clear H
  rintro ρ h ⟨x117, x118, x119, x124, x125, x126, x127, b116, a120, p121, n122, v128, I, H, hf, hs⟩
  refine k_fits _ hf ?_ rfl
  subst e134
  try dsimp only at H
  cases hs.nR d0
  rcases (hs.er d2).cases with ⟨c131, rfl⟩ | ⟨c131, t132, u133, rfl⟩
  ·rw [if_pos c131] at H
   refine st 8 [true] (k_op (lN (hs.bl d1) 0 6 ?_))
   refine st 2 [] (k_op (sN (hs.f d6) 10 [iv x117, iv x118, .slice a120 x119.length p121, iv x124, .bool x125, .bool x126] [v21, v22, iv x0.side'.gate'.Dir, iv x0.side'.gate'.Seen.Top, .int .u64 x0.side'.gate'.Seen.Bits, .string x0.side'.gate'.Peer.Addr, iv x0.side'.gate'.Peer.Seq, pv b23, iv x0.side'.dir', iv x0.side'.seq', iv x117, iv x118, .slice a120 x119.length p121, iv x124, .bool x125, .bool x126, v37, .slice a38 x0.sent'.length p39, .slice a42 x0.events'.length p43] (ones_of rfl) ?_))
   intro h hs
   exact st 2 [] (k_end ⟨x0.side'.gate'.Dir, x0.side'.gate'.Seen.Top, x0.side'.gate'.Seen.Bits, x0.side'.gate'.Peer.Addr, x0.side'.gate'.Peer.Seq, x0.side'.dir', x0.side'.seq', x117, x118, x119, x124, x125, x126, x0.sent', x0.side'.line', a120, p121, x119.length, a38, p39, x0.sent'.length, a24, p25, x0.side'.line'.queue'.length, a29, p30, x0.side'.line'.coming'.length, I, H, ft, hs.pk (.c d1 (.c d10 (.c d10 (.c d0 (.c d5 (.c d5 (.c d5 (.c d5 (.c d6 .n)))))))))⟩)
  rw [if_neg c131] at H
  exact st 8 [false] (k_end ⟨x0.side'.gate'.Dir, x0.side'.gate'.Seen.Top, x0.side'.gate'.Seen.Bits, x0.side'.gate'.Peer.Addr, x0.side'.gate'.Peer.Seq, x0.side'.dir', x0.side'.seq', x0.s'.Rows, x0.s'.Cols, x0.s'.Cells, x0.s'.Cursor, x0.s'.Locked, x0.s'.Insert, x0.sent', x0.side'.line', a33, p34, x0.s'.Cells.length, a38, p39, x0.sent'.length, a24, p25, x0.side'.line'.queue'.length, a29, p30, x0.side'.line'.coming'.length, I, H, ft, hs.pk (.c d13 (.c d11 (.c d11 (.c d6 (.c d6 (.c d6 (.c d6 (.c d6 (.c d6 .n)))))))))⟩)
 obtain ⟨hs0, bk0⟩ := hs.call tk0 (.c (qL d3) (.c (qL d0) (.c (qK d10) (.c (qO d1) .n))))
 have hs := hs0
 refine k_regD hs0 11 ?_
 refine aRun [0, 1, 2] 9 hs.keep ?_
 refine aG 3 rfl hs.keep (lls hs0 d0 10 6 rfl) (nmL hs0 d0) ?_
 refine aG 4 rfl hs.keep (lls hs0 d1 0 5 rfl) (nmL hs0 d1) ?_
 refine aT2 5 9 ?_ ?_
 ·obtain ⟨hk, bk⟩ := hs.call tk0 (.c (qK d2) (.c (qB d3) .n))
  refine aA rfl (o_call H (fun _ m => host_Do.calls m hk) ?_)
  rintro t100 _ h H ⟨I, _, ⟨a101, p102, n103, v105, rfl, rfl⟩, hk⟩
  replace hs := bk hk ct2 rfl
  cases hs.nR d0
  refine ⟨hs.keep, ?_⟩
  refine aRun [6, 7, 8] 3 hs.keep ?_
  refine aO1 9 rfl (nA hs [iv 0, iv 0, .slice none 0 0, iv 0, .bool false, .bool false] (.agg #[iv 0, iv 0, .slice none 0 0, iv 0, .bool false, .bool false]) ?_)
  intro b107 h hs
  refine ⟨hs.keep, ?_⟩
  refine aO1 10 rfl (sN0 hs [iv t100.1.Rows, iv t100.1.Cols, .slice a101 t100.1.Cells.length p102, iv t100.1.Cursor, .bool t100.1.Locked, .bool t100.1.Insert] (ones_of rfl) ?_)
  intro h hs
  refine ⟨hs.keep, ?_⟩
  replace hs := hs.pk (.c d0 (.c d0 (.c d0 .n)))
  replace hs := bk0 hs ct3 rfl
  refine aOL 11 rfl (owp_pure v105 (by kernel_rfl) ?_)
  refine aEnd ?_
  exact k_end ⟨t100.1.Rows, t100.1.Cols, t100.1.Cells, t100.1.Cursor, t100.1.Locked, t100.1.Insert, t100.2, b107, a101, p102, t100.1.Cells.length, v105, I, H, ft, hs.pk (.c d1 (.c d0 (.c d0 pk0)))⟩
 refine aA rfl (nA hs [iv 0, iv 0, .slice none 0 0, iv 0, .bool false, .bool false] (.agg #[iv 0, iv 0, .slice none 0 0, iv 0, .bool false, .bool false]) ?_)
 intro b108 h hs
 refine ⟨hs.keep, ?_⟩
 obtain ⟨hk, bk⟩ := hs.call tk0 (.c (qK d3) (.c (qB d4) .n))
 refine aO1 5 rfl (o_call H (fun _ m => host_Do.calls m hk) ?_)
 rintro t109 _ h H ⟨I, _, ⟨a110, p111, n112, v114, rfl, rfl⟩, hk⟩
 replace hs := bk hk ct2 rfl
 cases hs.nR d0
 refine ⟨hs.keep, ?_⟩
 refine aRun [6, 7, 8] 2 hs.keep ?_
 refine aO1 10 rfl (sN0 (hs.f d2) [iv t109.1.Rows, iv t109.1.Cols, .slice a110 t109.1.Cells.length p111, iv t109.1.Cursor, .bool t109.1.Locked, .bool t109.1.Insert] (ones_of rfl) ?_)
 intro h hs
 refine ⟨hs.keep, ?_⟩
 replace hs := hs.pk (.c d0 (.c d0 (.c d0 .n)))
 replace hs := bk0 hs ct3 rfl
 refine aOL 11 rfl (owp_pure v114 (by kernel_rfl) ?_)
 refine aEnd ?_
 exact k_end ⟨t109.1.Rows, t109.1.Cols, t109.1.Cells, t109.1.Cursor, t109.1.Locked, t109.1.Insert, t109.2, b108, a110, p111, t109.1.Cells.length, v114, I, H, ft, hs.pk (.c d1 (.c d0 (.c d0 pk0)))⟩
def side_Client_work.l1.m (K : Nat) (x0 : side_Client) : Nat → Int → Int → Int → ByteArray → Int → Int → Int → Int → Int → (List api_Cell) → Int → Bool → Bool → (List (List Int)) → (List (List Int)) → (List api_Event) → line_Line → Option (Int × Int × Int × ByteArray × Int × Int × Int × Int × Int × (List api_Cell) × Int × Bool × Bool × (List (List Int)) × (List (List Int)) × (List api_Event) × line_Line)
  | 0, _, _, _, _, _, _, _, _, _, _, _, _, _, _, _, _, _ => none
  | k + 1, x49, x50, x51, x52, x53, x54, x55, x56, x57, x58, x63, x64, x65, x66, x71, x76, x81 => (if (x66.length : Int) > 0 then (if 0 < (x66.length : Int) then ((side_Client_one.m K (⟨(⟨x0.side'.key', (⟨x0.side'.gate'.Key, x49, (⟨x50, x51⟩ : api_Seen), (⟨x52, x53⟩ : api_Peer)⟩ : roam_Gate), x81, x54, x55⟩ : side_side), (⟨x56, x57, x58, x63, x64, x65⟩ : api_Screen), x66, x71, x76⟩ : side_Client) (at_ x66 0)).bind fun t144 => bif t144.1 then (if 1 ≤ (x66.length : Int) then (side_Client_work.l1.m K x0 k t144.2.side'.gate'.Dir t144.2.side'.gate'.Seen.Top t144.2.side'.gate'.Seen.Bits t144.2.side'.gate'.Peer.Addr t144.2.side'.gate'.Peer.Seq t144.2.side'.dir' t144.2.side'.seq' t144.2.s'.Rows t144.2.s'.Cols t144.2.s'.Cells t144.2.s'.Cursor t144.2.s'.Locked t144.2.s'.Insert (sub x66 1 (x66.length : Int)) t144.2.sent' t144.2.events' t144.2.side'.line') else none) else (some ((t144.2.side'.gate'.Dir, t144.2.side'.gate'.Seen.Top, t144.2.side'.gate'.Seen.Bits, t144.2.side'.gate'.Peer.Addr, t144.2.side'.gate'.Peer.Seq, t144.2.side'.dir', t144.2.side'.seq', t144.2.s'.Rows, t144.2.s'.Cols, t144.2.s'.Cells, t144.2.s'.Cursor, t144.2.s'.Locked, t144.2.s'.Insert, x66, t144.2.sent', t144.2.events', t144.2.side'.line')))) else none) else (some ((x49, x50, x51, x52, x53, x54, x55, x56, x57, x58, x63, x64, x65, x66, x71, x76, x81))))
def side_Client_work.m (K : Nat) (x0 : side_Client) : Option side_Client :=
  ((side_Client_work.l1.m K x0 K x0.side'.gate'.Dir x0.side'.gate'.Seen.Top x0.side'.gate'.Seen.Bits x0.side'.gate'.Peer.Addr x0.side'.gate'.Peer.Seq x0.side'.dir' x0.side'.seq' x0.s'.Rows x0.s'.Cols x0.s'.Cells x0.s'.Cursor x0.s'.Locked x0.s'.Insert x0.todo' x0.sent' x0.events' x0.side'.line').bind fun (x91, x92, x93, x94, x95, x96, x97, x98, x99, x100, x105, x106, x107, x108, x113, x118, x123) => (some (⟨(⟨x0.side'.key', (⟨x0.side'.gate'.Key, x91, (⟨x92, x93⟩ : api_Seen), (⟨x94, x95⟩ : api_Peer)⟩ : roam_Gate), x123, x96, x97⟩ : side_side), (⟨x98, x99, x100, x105, x106, x107⟩ : api_Screen), x108, x113, x118⟩ : side_Client)))
theorem side_Client_work.calls {B I : Gh} {h : Heap} {K : Nat} {x0 : side_Client} {b0 : Nat} {v21 : Value} {v22 : Value} {b23 : Nat} {a24 : Option Addr} {p25 : Nat} {n26 : Nat} {b28 : Nat} {a29 : Option Addr} {p30 : Nat} {n31 : Nat} {a33 : Option Addr} {p34 : Nat} {n35 : Nat} {a37 : Option Addr} {p38 : Nat} {n39 : Nat} {a41 : Option Addr} {p42 : Nat} {n43 : Nat} {a45 : Option Addr} {p46 : Nat} {n47 : Nat} {r : side_Client} (H : side_Client_work.m K x0 = some r)  :
    Fc Tryz.prog 88 #[pv b0] [rB b0 [v21, v22, iv x0.side'.gate'.Dir, iv x0.side'.gate'.Seen.Top, .int .u64 x0.side'.gate'.Seen.Bits, .string x0.side'.gate'.Peer.Addr, iv x0.side'.gate'.Peer.Seq, pv b23, iv x0.side'.dir', iv x0.side'.seq', iv x0.s'.Rows, iv x0.s'.Cols, .slice a33 n35 p34, iv x0.s'.Cursor, .bool x0.s'.Locked, .bool x0.s'.Insert, .slice a37 n39 p38, .slice a41 n43 p42, .slice a45 n47 p46] 78, rB b23 [.slice a24 n26 p25, iv x0.side'.line'.given', iv x0.side'.line'.await', .map (some b28), .slice a29 n31 p30, iv x0.side'.line'.wait', iv x0.side'.line'.left', .bool x0.side'.line'.owes'] 239, rO t_api_Pack .i a24 p25 n26 x0.side'.line'.queue', rM t_api_Pack b28 x0.side'.line'.kept', rO (tInt .u8) .i a29 p30 n31 x0.side'.line'.coming', rO (tSl (tInt .u8)) .i a37 p38 n39 x0.todo', rO (tSl (tInt .u8)) .i a41 p42 n43 x0.sent', rO t_api_Event .i a45 p46 n47 x0.events', rR t_api_Cell .i a33 p34 n35 x0.s'.Cells] B I h (fun v L => ∃ a168 p169 n170 a172 p173 n174 a176 p177 n178 a180 p181 n182 a184 p185 n186 a188 p189 n190, v = .tuple #[] ∧ L = [rB b0 [v21, v22, iv r.side'.gate'.Dir, iv r.side'.gate'.Seen.Top, .int .u64 r.side'.gate'.Seen.Bits, .string r.side'.gate'.Peer.Addr, iv r.side'.gate'.Peer.Seq, pv b23, iv r.side'.dir', iv r.side'.seq', iv r.s'.Rows, iv r.s'.Cols, .slice a176 n178 p177, iv r.s'.Cursor, .bool r.s'.Locked, .bool r.s'.Insert, .slice a180 n182 p181, .slice a184 n186 p185, .slice a188 n190 p189] 78, rB b23 [.slice a168 n170 p169, iv r.side'.line'.given', iv r.side'.line'.await', .map (some b28), .slice a172 n174 p173, iv r.side'.line'.wait', iv r.side'.line'.left', .bool r.side'.line'.owes'] 239, rO t_api_Pack .i a168 p169 n170 r.side'.line'.queue', rM t_api_Pack b28 r.side'.line'.kept', rO (tInt .u8) .i a172 p173 n174 r.side'.line'.coming', rR t_api_Cell .i a176 p177 n178 r.s'.Cells, rO (tSl (tInt .u8)) .i a180 p181 n182 r.todo', rO (tSl (tInt .u8)) .i a184 p185 n186 r.sent', rO t_api_Event .i a188 p189 n190 r.events']) := by
 refine fc_of fun E hs => ?_
 unfold side_Client_work.m at H
 cases hs.nO d2
 cases hs.nO d4
 cases hs.nO d5
 cases hs.nO d6
 cases hs.nO d7
 cases hs.nR d8
 refine fn_of (rs := []) (N := 26) Tryz.func88 rfl rfl rfl rfl ?_
 refine st 1 [] ?_
 obtain ⟨s90, m133, HR132⟩ := bind_some H
 refine k_loop 0 (fun k' ρ h => ∃ (x49 : Int) (x50 : Int) (x51 : Int) (x52 : ByteArray) (x53 : Int) (x54 : Int) (x55 : Int) (x56 : Int) (x57 : Int) (x58 : List api_Cell) (x63 : Int) (x64 : Bool) (x65 : Bool) (x66 : List (List Int)) (x71 : List (List Int)) (x76 : List api_Event) (x81 : line_Line), ∃ a59 p60 n61 a67 p68 n69 a72 p73 n74 a77 p78 n79 a82 p83 n84 a86 p87 n88 I, side_Client_work.l1.m K x0 k' x49 x50 x51 x52 x53 x54 x55 x56 x57 x58 x63 x64 x65 x66 x71 x76 x81 = some s90 ∧ Fits [(0, pv b0)] ρ ∧ St E [rR t_api_Cell .i a59 p60 n61 x58, rO (tSl (tInt .u8)) .i a67 p68 n69 x66, rO (tSl (tInt .u8)) .i a72 p73 n74 x71, rO t_api_Event .i a77 p78 n79 x76, rB b0 [v21, v22, iv x49, iv x50, .int .u64 x51, .string x52, iv x53, pv b23, iv x54, iv x55, iv x56, iv x57, .slice a59 n61 p60, iv x63, .bool x64, .bool x65, .slice a67 n69 p68, .slice a72 n74 p73, .slice a77 n79 p78] 78, rB b23 [.slice a82 n84 p83, iv x81.given', iv x81.await', .map (some b28), .slice a86 n88 p87, iv x81.wait', iv x81.left', .bool x81.owes'] 239, rO t_api_Pack .i a82 p83 n84 x81.queue', rM t_api_Pack b28 x81.kept', rO (tInt .u8) .i a86 p87 n88 x81.coming'] I h) (fun ρ h => ∃ (x91 : Int) (x92 : Int) (x93 : Int) (x94 : ByteArray) (x95 : Int) (x96 : Int) (x97 : Int) (x98 : Int) (x99 : Int) (x100 : List api_Cell) (x105 : Int) (x106 : Bool) (x107 : Bool) (x108 : List (List Int)) (x113 : List (List Int)) (x118 : List api_Event) (x123 : line_Line), ∃ a101 p102 n103 a109 p110 n111 a114 p115 n116 a119 p120 n121 a124 p125 n126 a128 p129 n130 I, (x91, x92, x93, x94, x95, x96, x97, x98, x99, x100, x105, x106, x107, x108, x113, x118, x123) = s90 ∧ Fits [] ρ ∧ St E [rR t_api_Cell .i a101 p102 n103 x100, rO (tSl (tInt .u8)) .i a109 p110 n111 x108, rO (tSl (tInt .u8)) .i a114 p115 n116 x113, rO t_api_Event .i a119 p120 n121 x118, rB b0 [v21, v22, iv x91, iv x92, .int .u64 x93, .string x94, iv x95, pv b23, iv x96, iv x97, iv x98, iv x99, .slice a101 n103 p102, iv x105, .bool x106, .bool x107, .slice a109 n111 p110, .slice a114 n116 p115, .slice a119 n121 p120] 78, rB b23 [.slice a124 n126 p125, iv x123.given', iv x123.await', .map (some b28), .slice a128 n130 p129, iv x123.wait', iv x123.left', .bool x123.owes'] 239, rO t_api_Pack .i a124 p125 n126 x123.queue', rM t_api_Pack b28 x123.kept', rO (tInt .u8) .i a128 p129 n130 x123.coming'] I h) K ⟨x0.side'.gate'.Dir, x0.side'.gate'.Seen.Top, x0.side'.gate'.Seen.Bits, x0.side'.gate'.Peer.Addr, x0.side'.gate'.Peer.Seq, x0.side'.dir', x0.side'.seq', x0.s'.Rows, x0.s'.Cols, x0.s'.Cells, x0.s'.Cursor, x0.s'.Locked, x0.s'.Insert, x0.todo', x0.sent', x0.events', x0.side'.line', a33, p34, x0.s'.Cells.length, a37, p38, x0.todo'.length, a41, p42, x0.sent'.length, a45, p46, x0.events'.length, a24, p25, x0.side'.line'.queue'.length, a29, p30, x0.side'.line'.coming'.length, I, m133, ft, hs.pk (.c d8 (.c d5 (.c d5 (.c d5 (.c d0 (.c d0 (.c d0 (.c d0 (.c d0 .n)))))))))⟩ ?_ rfl ?_
 rotate_left
 ·rintro ρ h ⟨x91, x92, x93, x94, x95, x96, x97, x98, x99, x100, x105, x106, x107, x108, x113, x118, x123, a101, p102, n103, a109, p110, n111, a114, p115, n116, a119, p120, n121, a124, p125, n126, a128, p129, n130, I, rfl, hf, hs⟩
  have H := HR132
  try dsimp only at H
  cases hs.nR d0
  cases hs.nO d1
  cases hs.nO d2
  cases hs.nO d3
  cases hs.nO d6
  cases hs.nO d8
  refine k_fin ?_
  obtain rfl := si H
  exact ⟨_, by kernel_rfl, I, _, ⟨a124, p125, x123.queue'.length, a128, p129, x123.coming'.length, a101, p102, x100.length, a109, p110, x108.length, a114, p115, x113.length, a119, p120, x118.length, rfl, rfl⟩, hs.pk (.c d4 (.c d4 (.c d4 (.c d4 (.c d4 (.c d0 (.c d0 (.c d0 (.c d0 .n)))))))))⟩
 clear HR132 m133 H
 rintro k' ρ h ⟨x49, x50, x51, x52, x53, x54, x55, x56, x57, x58, x63, x64, x65, x66, x71, x76, x81, a59, p60, n61, a67, p68, n69, a72, p73, n74, a77, p78, n79, a82, p83, n84, a86, p87, n88, I, H, hf, hs⟩
 cases k' with
 | zero => cases H
 | succ k =>
  rw [side_Client_work.l1.m] at H
  refine k_fits _ hf ?_ rfl
  cases hs.nR d0
  cases hs.nO d1
  cases hs.nO d2
  cases hs.nO d3
  cases hs.nO d6
  cases hs.nO d8
  refine st 6 [] (k_op (lB (hs.bl d4) 16 rfl ?_))
  refine st 1 [] (k_ite H (fun c134 H => ?_) (fun c134 H => ?_))
  rotate_left
  ·refine st 12 [false] (k_out rfl ?_)
   obtain rfl := si H
   exact xE ⟨x49, x50, x51, x52, x53, x54, x55, x56, x57, x58, x63, x64, x65, x66, x71, x76, x81, a59, p60, x58.length, a67, p68, x66.length, a72, p73, x71.length, a77, p78, x76.length, a82, p83, x81.queue'.length, a86, p87, x81.coming'.length, I, rfl, trivial, hs.pk (.c d0 (.c d0 (.c d0 (.c d0 (.c d0 (.c d0 (.c d0 (.c d0 (.c d0 .n)))))))))⟩
  refine st 5 [] (k_op (lB (hs.bl d4) 16 rfl ?_))
  obtain ⟨c135, H⟩ := guard_pos H
  refine k_val (elemPtr a67 ((0 : Int).toNat * 1)) (pI (e := 31) (ik := .i64) (hs.sO d1) (by decide) c135) ?_
  obtain ⟨y137, g136, q138⟩ := (hs.sO d1).toSl.seg (by decide) c135
  obtain ⟨a139, p140, n141, rfl, q143⟩ := rep_sl q138
  obtain rfl := q143.2
  replace hs := hs.pR q143
  refine k_op (lC (seg_cell (f := 0) g136 rfl) ?_)
  obtain ⟨hk, bk⟩ := (((((((hs.f d4).f d4).f d9).f d9).f d9).f d9).f d9).call (.s tk6) (.c (qK d1) (.c (qI d0) .n))
  refine k_call H (fun _ m => side_Client_one.calls m hk) ?_
  rintro t144 _ h H ⟨I, _, ⟨a145, p146, n147, a149, p150, n151, a153, p154, n155, a157, p158, n159, a161, p162, n163, rfl, rfl⟩, hk⟩
  replace hs := bk hk (.s (.s ct6)) rfl
  cases hs.nO d2
  cases hs.nO d4
  cases hs.nR d5
  cases hs.nO d6
  cases hs.nO d7
  refine k_spl H (fun c165 H => ?_) (fun c165 H => ?_)
  rotate_left
  ·refine st 3 [false] (k_out rfl ?_)
   obtain rfl := si H
   exact xE ⟨t144.2.side'.gate'.Dir, t144.2.side'.gate'.Seen.Top, t144.2.side'.gate'.Seen.Bits, t144.2.side'.gate'.Peer.Addr, t144.2.side'.gate'.Peer.Seq, t144.2.side'.dir', t144.2.side'.seq', t144.2.s'.Rows, t144.2.s'.Cols, t144.2.s'.Cells, t144.2.s'.Cursor, t144.2.s'.Locked, t144.2.s'.Insert, x66, t144.2.sent', t144.2.events', t144.2.side'.line', a153, p154, t144.2.s'.Cells.length, a67, p68, x66.length, a157, p158, t144.2.sent'.length, a161, p162, t144.2.events'.length, a145, p146, t144.2.side'.line'.queue'.length, a149, p150, t144.2.side'.line'.coming'.length, I, rfl, trivial, hs.pk (.c d5 (.c d9 (.c d5 (.c d5 (.c d0 (.c d0 (.c d0 (.c d0 (.c d0 .n)))))))))⟩
  refine st 10 [true] (k_op (lB (hs.bl d0) 16 rfl ?_))
  obtain ⟨c166, H⟩ := guard_pos H
  refine k_val (.slice (slA a67 p68 (Int.toNat (1 : Int)) 1) ((sub x66 1 (x66.length : Int)).length) (p68 - Int.toNat (1 : Int))) (pSl (e := 31) (k1 := .i64) (hs.sO d10) (by decide) c166 (Int.le_refl _)) ?_
  replace hs := (hs.f d10).partO (lo := 1) (hi := (x66.length : Int)) (by decide) c166 (Int.le_refl _)
  refine st 2 [] (k_op (sB (v := .slice (slA a67 p68 (Int.toNat (1 : Int)) 1) ((sub x66 1 (x66.length : Int)).length) (p68 - Int.toNat (1 : Int))) (hs.f d1) cw16 ?_))
  intro h hs
  exact st 2 [] (k_endL ⟨k, Nat.lt_succ_self _, t144.2.side'.gate'.Dir, t144.2.side'.gate'.Seen.Top, t144.2.side'.gate'.Seen.Bits, t144.2.side'.gate'.Peer.Addr, t144.2.side'.gate'.Peer.Seq, t144.2.side'.dir', t144.2.side'.seq', t144.2.s'.Rows, t144.2.s'.Cols, t144.2.s'.Cells, t144.2.s'.Cursor, t144.2.s'.Locked, t144.2.s'.Insert, (sub x66 1 (x66.length : Int)), t144.2.sent', t144.2.events', t144.2.side'.line', a153, p154, t144.2.s'.Cells.length, (slA a67 p68 (Int.toNat (1 : Int)) 1), (p68 - Int.toNat (1 : Int)), (sub x66 1 (x66.length : Int)).length, a157, p158, t144.2.sent'.length, a161, p162, t144.2.events'.length, a145, p146, t144.2.side'.line'.queue'.length, a149, p150, t144.2.side'.line'.coming'.length, I, H, ft, hs.pk (.c d6 (.c d1 (.c d5 (.c d5 (.c d0 (.c d0 (.c d0 (.c d0 (.c d0 .n)))))))))⟩)
def line_Line_told.m (x0 : line_Line) (x1 : api_Pack) : Option (api_Pack × line_Line) :=
  ((slices_Clone_bytes.m x1.Data).bind fun t30 => (some ((⟨(w64 (x0.await' - 1)), x1.Num, x1.Last, t30⟩ : api_Pack), x0)))
theorem line_Line_told.calls {B I : Gh} {h : Heap} {x0 : line_Line} {x1 : api_Pack} {b0 : Nat} {v21 : Value} {v22 : Value} {v23 : Value} {a24 : Option Addr} {p25 : Nat} {n26 : Nat} {r : (api_Pack × line_Line)} (H : line_Line_told.m x0 x1 = some r)  :
    Fc Tryz.prog 195 #[pv b0, .agg #[iv x1.Ack, iv x1.Num, .bool x1.Last, .slice a24 n26 p25]] [rB b0 [v21, iv x0.given', iv x0.await', v22, v23, iv x0.wait', iv x0.left', .bool x0.owes'] 239, rR (tInt .u8) .b a24 p25 n26 x1.Data] B I h (fun v L => ∃ a35 p36 n37, v = .agg #[iv r.1.Ack, iv r.1.Num, .bool r.1.Last, .slice a35 n37 p36] ∧ L = [rO (tInt .u8) .i a35 p36 n37 r.1.Data, rB b0 [v21, iv r.2.given', iv r.2.await', v22, v23, iv r.2.wait', iv r.2.left', .bool r.2.owes'] 239]) := by
 refine fc_of fun E hs => ?_
 unfold line_Line_told.m at H
 cases hs.nR d1
 refine fn_of2 (rs := [.cell 4 108]) (N := 16) Tryz.func195 rfl rfl rfl rfl ?_
 refine st 2 [] (k_op (nB hs [iv x1.Ack, iv x1.Num, .bool x1.Last, .slice a24 x1.Data.length p25] ?_))
 intro b28 h hs
 refine k_op (nA hs [iv 0, iv 0, .bool false, .slice none 0 0] (.agg #[iv 0, iv 0, .bool false, .slice none 0 0]) ?_)
 intro b29 h hs
 refine st 6 [] (k_op (lB (hs.bl d2) 2 rfl ?_))
 refine st 2 [] (k_op (sB (v := iv (w64 (x0.await' - 1))) (hs.f d1) cw0 ?_))
 intro h hs
 refine st 4 [] (k_op (lB (hs.bl d0) 3 rfl ?_))
 obtain ⟨hk, bk⟩ := hs.call tk0 (.c (qB d3) .n)
 refine k_call H (fun _ m => slices_Clone_bytes.calls m hk) ?_
 rintro t30 _ h H ⟨I, _, ⟨a31, p32, n33, rfl, rfl⟩, hk⟩
 replace hs := bk hk ct1 rfl
 cases hs.nO d0
 refine st 1 [] (k_op (sB (v := .slice a31 t30.length p32) (hs.f d1) cw3 ?_))
 intro h hs
 refine st 3 [] (k_op (lN (hs.bl d0) 0 4 ?_))
 refine k_op (sN0 (hs.f d2) [iv (w64 (x0.await' - 1)), iv x1.Num, .bool x1.Last, .slice a31 t30.length p32] (ones_of rfl) ?_)
 intro h hs
 obtain rfl := si H
 exact st 1 [] (k_retQ ⟨[.agg #[iv (w64 (x0.await' - 1)), iv x1.Num, .bool x1.Last, .slice a31 t30.length p32]], (.cons (.agg (by kernel_rfl) (by kernel_rfl) (by kernel_rfl) ((hs.bl d0).seg_ 0 4 (Nat.le_of_ble_eq_true rfl))) .nil), I, _, ⟨a31, p32, t30.length, rfl, rfl⟩, hs.pk (.c d2 (.c d2 .n))⟩)
def line_Line_Tick.l1.m (K : Nat) (x0 : line_Line) : Nat → (List api_Pack) → Int → Int → Int → Int → Int → Bool → Option ((List api_Pack) × Int × Int × Int × Int × Bool)
  | 0, _, _, _, _, _, _, _ => none
  | k + 1, x39, x44, x45, x46, x47, x48, x49 => (letJ (α := Bool → Option ((List api_Pack) × Int × Int × Int × Int × Bool)) (fun (x64 : Bool) => (bif x64 then (if 0 ≤ x44 then (if x44 < ((sub x0.queue' 0 (mn 8 (x0.queue'.length : Int))).length : Int) then ((line_Line_told.m (⟨x0.queue', x45, x46, x0.kept', x0.coming', x47, x48, x49⟩ : line_Line) (at_ (sub x0.queue' 0 (mn 8 (x0.queue'.length : Int))) x44)).bind fun t77 => ((app x39 [t77.1]).bind fun l84 => (line_Line_Tick.l1.m K x0 k l84 (w64 (x44 + 1)) t77.2.given' t77.2.await' t77.2.wait' t77.2.left' t77.2.owes'))) else none) else none) else (some ((x39, x45, x46, x47, x48, x49))))) fun (j65 : Bool → Option ((List api_Pack) × Int × Int × Int × Int × Bool)) => (if x44 < ((sub x0.queue' 0 (mn 8 (x0.queue'.length : Int))).length : Int) then (j65 true) else (j65 false)))
def line_Line_Tick.m (K : Nat) (x0 : line_Line) : Option ((List api_Pack) × line_Line) :=
  (letJ (α := Int → Option ((List api_Pack) × line_Line)) (fun (x31 : Int) => (letJ (α := (List api_Pack) → Int → Int → Int → Int → Bool → Option ((List api_Pack) × line_Line)) (fun (x78 : List api_Pack) (x83 : Int) (x84 : Int) (x85 : Int) (x86 : Int) (x87 : Bool) => (if (x78.length : Int) = 0 then (bif x87 then ((line_Line_told.m (⟨x0.queue', x83, x84, x0.kept', x0.coming', x85, x86, x87⟩ : line_Line) (⟨0, 0, false, []⟩ : api_Pack)).bind fun t91 => ((app x78 [t91.1]).bind fun l98 => (some (l98, (⟨x0.queue', t91.2.given', t91.2.await', x0.kept', x0.coming', t91.2.wait', t91.2.left', false⟩ : line_Line))))) else (some (x78, (⟨x0.queue', x83, x84, x0.kept', x0.coming', x85, x86, false⟩ : line_Line)))) else (some (x78, (⟨x0.queue', x83, x84, x0.kept', x0.coming', x85, x86, false⟩ : line_Line))))) fun (j88 : (List api_Pack) → Int → Int → Int → Int → Bool → Option ((List api_Pack) × line_Line)) => (letJ (α := Bool → Option ((List api_Pack) × line_Line)) (fun (x35 : Bool) => (bif x35 then (if 0 ≤ (mn 8 (x0.queue'.length : Int)) then (if (mn 8 (x0.queue'.length : Int)) ≤ (x0.queue'.length : Int) then ((line_Line_Tick.l1.m K x0 K [] 0 x0.given' x0.await' x0.wait' x31 x0.owes').bind fun (x51, x56, x57, x58, x59, x60) => (j88 x51 x56 x57 (mn (w64 (2 * x58)) 16) x58 x60)) else none) else none) else (j88 [] x0.given' x0.await' x0.wait' x31 x0.owes'))) fun (j36 : Bool → Option ((List api_Pack) × line_Line)) => (if (x0.queue'.length : Int) > 0 then (if x31 = 0 then (j36 true) else (j36 false)) else (j36 false))))) fun (j32 : Int → Option ((List api_Pack) × line_Line)) => (letJ (α := Bool → Option ((List api_Pack) × line_Line)) (fun (x28 : Bool) => (bif x28 then (j32 (mx 0 (w64 (x0.left' - 1)))) else (j32 x0.left'))) fun (j29 : Bool → Option ((List api_Pack) × line_Line)) => (if (x0.queue'.length : Int) > 0 then (j29 true) else (j29 false))))
theorem line_Line_Tick.calls {B I : Gh} {h : Heap} {K : Nat} {x0 : line_Line} {b0 : Nat} {a21 : Option Addr} {p22 : Nat} {n23 : Nat} {v25 : Value} {v26 : Value} {r : ((List api_Pack) × line_Line)} (H : line_Line_Tick.m K x0 = some r)  :
    Fc Tryz.prog 137 #[pv b0] [rB b0 [.slice a21 n23 p22, iv x0.given', iv x0.await', v25, v26, iv x0.wait', iv x0.left', .bool x0.owes'] 239, rO t_api_Pack .i a21 p22 n23 x0.queue'] B I h (fun v L => ∃ a105 p106 n107 a109 p110 n111, v = .slice a105 n107 p106 ∧ L = [rO t_api_Pack .i a105 p106 n107 r.1, rB b0 [.slice a109 n111 p110, iv r.2.given', iv r.2.await', v25, v26, iv r.2.wait', iv r.2.left', .bool r.2.owes'] 239, rO t_api_Pack .i a109 p110 n111 r.2.queue']) := by
 refine fc_of fun E hs => ?_
 unfold line_Line_Tick.m at H
 cases hs.nO d1
 refine fn_of (rs := [.tmp 2]) (N := 92) Tryz.func137 rfl rfl rfl rfl ?_
 refine st 9 [] ?_
 obtain ⟨j32, e104, H⟩ := letJ_some H
 refine k_join (fun ρ h => ∃ (x31 : Int), ∃ I, j32 x31 = some r ∧ Fits [(0, pv b0), (3, .slice none 0 0)] ρ ∧ St E [rB b0 [.slice a21 x0.queue'.length p22, iv x0.given', iv x0.await', v25, v26, iv x0.wait', iv x31, .bool x0.owes'] 239, rO t_api_Pack .i a21 p22 x0.queue'.length x0.queue'] I h) ?_ ?_
 ·refine st 1 [] ?_
  obtain ⟨j29, e30, H⟩ := letJ_some H
  refine k_joinT (fun T ρ h => ∃ (x28 : Bool), ∃ I, j29 x28 = some r ∧ Fits [(0, pv b0), (3, .slice none 0 0), (11, .bool x28)] ρ ∧ St E T I h) hs tl0 ?_ ?_
  ·refine st 4 [] (k_op (lB (hs.bl d0) 0 rfl ?_))
   refine st 1 [] (k_ite H (fun c27 H => ?_) (fun c27 H => ?_))
   ·exact st 1 [] (k_end ⟨true, I, H, ft, hs⟩)
   exact st 1 [] (k_end ⟨false, I, H, ft, hs⟩)
  clear H
  rintro ρ h ⟨x28, I, H, hf, hs⟩
  refine k_fits _ hf ?_ rfl
  subst e30
  try dsimp only at H
  cases x28
  ·rw [cond_false] at H
   exact st 2 [false] (k_end ⟨x0.left', I, H, ft, hs.pk (.c d0 (.c d0 .n))⟩)
  rw [cond_true] at H
  refine st 6 [true] (k_op (lB (hs.bl d0) 6 rfl ?_))
  refine st 4 [] (k_op (sB (v := iv (mx 0 (w64 (x0.left' - 1)))) hs cw6 ?_))
  intro h hs
  exact st 1 [] (k_end ⟨(mx 0 (w64 (x0.left' - 1))), I, H, ft, hs.pk (.c d0 (.c d0 .n))⟩)
 clear H
 rintro ρ h ⟨x31, I, H, hf, hs⟩
 refine k_fits _ hf ?_ rfl
 subst e104
 try dsimp only at H
 refine st 1 [] ?_
 obtain ⟨j88, e103, H⟩ := letJ_some H
 refine k_join (fun ρ h => ∃ (x78 : List api_Pack) (x83 : Int) (x84 : Int) (x85 : Int) (x86 : Int) (x87 : Bool), ∃ a79 p80 n81 I, j88 x78 x83 x84 x85 x86 x87 = some r ∧ Fits [(0, pv b0), (3, .slice a79 n81 p80)] ρ ∧ St E [rO t_api_Pack .i a79 p80 n81 x78, rB b0 [.slice a21 x0.queue'.length p22, iv x83, iv x84, v25, v26, iv x85, iv x86, .bool x87] 239, rO t_api_Pack .i a21 p22 x0.queue'.length x0.queue'] I h) ?_ ?_
 rotate_left
 ·clear H
  rintro ρ h ⟨x78, x83, x84, x85, x86, x87, a79, p80, n81, I, H, hf, hs⟩
  refine k_fits _ hf ?_ rfl
  subst e103
  try dsimp only at H
  cases hs.nO d0
  refine st 5 [] (k_ite H (fun c89 H => ?_) (fun c89 H => ?_))
  rotate_left
  ·refine st 14 [false] (k_op (sB (v := .bool false) (hs.f d1) cw7 ?_))
   intro h hs
   obtain rfl := si H
   exact st 6 [] (k_retQ ⟨_, by kernel_rfl, I, _, ⟨a79, p80, x78.length, a21, p22, x0.queue'.length, rfl, rfl⟩, hs.pk (.c d1 (.c d0 (.c d0 .n)))⟩)
  refine st 4 [] (k_op (lB (hs.bl d1) 7 rfl ?_))
  refine k_spl H (fun c90 H => ?_) (fun c90 H => ?_)
  rotate_left
  ·refine st 9 [false] (k_op (sB (v := .bool false) (hs.f d1) cw7 ?_))
   intro h hs
   obtain rfl := si H
   exact st 6 [] (k_retQ ⟨_, by kernel_rfl, I, _, ⟨a79, p80, x78.length, a21, p22, x0.queue'.length, rfl, rfl⟩, hs.pk (.c d1 (.c d0 (.c d0 .n)))⟩)
  obtain ⟨hk, bk⟩ := (hs.f d1).call tk1 (.c qN .n)
  refine st 7 [true] (k_call H (fun _ m => line_Line_told.calls m hk) ?_)
  rintro t91 _ h H ⟨I, _, ⟨a92, p93, n94, rfl, rfl⟩, hk⟩
  replace hs := bk hk ct2 rfl
  cases hs.nO d0
  obtain ⟨I, hs⟩ := hs.fO
  refine k_op (nS (e := 108) hs .i t_api_Pack ([t91.1] : List api_Pack) [iv t91.1.Ack, iv t91.1.Num, .bool t91.1.Last, .slice a92 t91.1.Data.length p93] 4 (.agg #[iv 0, iv 0, .bool false, .slice none 0 0]) (Reps.cons (T := t_api_Pack) (c := [iv t91.1.Ack, iv t91.1.Num, .bool t91.1.Last, .slice a92 t91.1.Data.length p93]) (x := t91.1) ⟨_, _, _, rfl, (hs.g d0)⟩ (.nil : Reps t_api_Pack (Cl.G .i E.B I) h [] [])) ?_)
  intro b96 h hs
  replace hs := (hs.f d3)
  obtain ⟨l98, m99, H⟩ := bind_some H
  refine k_op (aO (e := 108) (bytes := 48) hs (hs.sO d1) m99 ?_)
  intro a100 p101 h hs
  refine st 7 [] (k_op (sB (v := .bool false) (hs.f d3) cw7 ?_))
  intro h hs
  obtain rfl := si H
  exact st 6 [] (k_retQ ⟨_, by kernel_rfl, I, _, ⟨a100, p101, l98.length, a21, p22, x0.queue'.length, rfl, rfl⟩, hs.pk (.c d1 (.c d0 (.c d2 .n)))⟩)
 refine st 1 [] ?_
 obtain ⟨j36, e90, H⟩ := letJ_some H
 refine k_joinT (fun T ρ h => ∃ (x35 : Bool), ∃ I, j36 x35 = some r ∧ Fits [(0, pv b0), (3, .slice none 0 0), (33, .bool x35)] ρ ∧ St E T I h) hs tl0 ?_ ?_
 ·refine st 4 [] (k_op (lB (hs.bl d0) 0 rfl ?_))
  refine st 1 [] (k_ite H (fun c33 H => ?_) (fun c33 H => ?_))
  rotate_left
  ·exact st 8 [] (k_end ⟨false, I, H, ft, hs⟩)
  refine st 4 [] (k_op (lB (hs.bl d0) 6 rfl ?_))
  refine k_ite H (fun c34 H => ?_) (fun c34 H => ?_)
  ·exact st 2 [] (k_end ⟨true, I, H, ft, hs⟩)
  exact st 2 [] (k_end ⟨false, I, H, ft, hs⟩)
 clear H
 rintro ρ h ⟨x35, I, H, hf, hs⟩
 refine k_fits _ hf ?_ rfl
 subst e90
 try dsimp only at H
 cases x35
 ·rw [cond_false] at H
  exact st 2 [false] (k_end ⟨[], x0.given', x0.await', x0.wait', x31, x0.owes', none, 0, 0, I, H, ft, hs.pk (.f imON (.c d0 (.c d0 .n)))⟩)
 rw [cond_true] at H
 refine st 3 [true] ?_
 obtain ⟨hs0, bk0⟩ := hs.call tk0 (.c (qL d0) (.c (qO d1) .n))
 have hs := hs0
 refine k_regD hs0 13 ?_
 refine aRun [0, 1, 2] 10 hs.keep ?_
 refine aL 3 rfl hs.keep (ll hs0 d0 (n := 0) rfl) (nmL hs0 d0) ?_
 refine aRun [4, 5, 6] 6 hs.keep ?_
 refine aL 7 rfl hs.keep (ll hs0 d0 (n := 0) rfl) (nmL hs0 d0) ?_
 obtain ⟨c37, H⟩ := guard_pos H
 obtain ⟨c38, H⟩ := guard_pos H
 refine aRun [8, 9] 3 hs.keep ?_
 refine aP 10 (.slice (slA a21 p22 (Int.toNat (0 : Int)) 4) ((sub x0.queue' 0 (mn 8 (x0.queue'.length : Int))).length) (p22 - Int.toNat (0 : Int))) rfl (pSh (e := 108) (k2 := .i64) (hs.sR d1) (Int.le_refl 0) c37 c38) hs.keep ?_
 refine aRun [11, 12] 0 hs.keep ?_
 replace hs := hs.pk .n
 replace hs := bk0 hs ct0 rfl
 refine aEnd ?_
 refine st 1 [] ?_
 obtain ⟨s50, m62, HR61⟩ := bind_some H
 refine k_loop 0 (fun k' ρ h => ∃ (x39 : List api_Pack) (x44 : Int) (x45 : Int) (x46 : Int) (x47 : Int) (x48 : Int) (x49 : Bool), ∃ a40 p41 n42 I, line_Line_Tick.l1.m K x0 k' x39 x44 x45 x46 x47 x48 x49 = some s50 ∧ Fits [(0, pv b0), (3, .slice a40 n42 p41), (44, .slice (slA a21 p22 (Int.toNat (0 : Int)) 4) ((sub x0.queue' 0 (mn 8 (x0.queue'.length : Int))).length) (p22 - Int.toNat (0 : Int))), (45, iv ((sub x0.queue' 0 (mn 8 (x0.queue'.length : Int))).length : Int)), (46, iv x44)] ρ ∧ St E [rO t_api_Pack .i a40 p41 n42 x39, rB b0 [.slice a21 x0.queue'.length p22, iv x45, iv x46, v25, v26, iv x47, iv x48, .bool x49] 239, rO t_api_Pack .i a21 p22 x0.queue'.length x0.queue'] I h) (fun ρ h => ∃ (x51 : List api_Pack) (x56 : Int) (x57 : Int) (x58 : Int) (x59 : Int) (x60 : Bool), ∃ a52 p53 n54 I, (x51, x56, x57, x58, x59, x60) = s50 ∧ Fits [(0, pv b0), (3, .slice a52 n54 p53)] ρ ∧ St E [rO t_api_Pack .i a52 p53 n54 x51, rB b0 [.slice a21 x0.queue'.length p22, iv x56, iv x57, v25, v26, iv x58, iv x59, .bool x60] 239, rO t_api_Pack .i a21 p22 x0.queue'.length x0.queue'] I h) K ⟨[], 0, x0.given', x0.await', x0.wait', x31, x0.owes', none, 0, 0, I, m62, ft, hs.pk (.f imON (.c d0 (.c d0 .n)))⟩ ?_ rfl ?_
 rotate_left
 ·rintro ρ h ⟨x51, x56, x57, x58, x59, x60, a52, p53, n54, I, rfl, hf, hs⟩
  have H := HR61
  try dsimp only at H
  refine k_fits _ hf ?_ rfl
  cases hs.nO d0
  obtain ⟨hs0, bk0⟩ := (hs.f d1).call tk1 .n
  have hs := hs0
  refine k_regD hs0 15 ?_
  refine aRun [0, 1, 2, 3, 4, 6, 7, 8] 10 hs.keep ?_
  refine aT2 5 9 ?_ ?_
  ·refine aA rfl (lB (hs.bl d0) 5 rfl ?_)
   refine ⟨hs.keep, ?_⟩
   refine aO1 9 rfl (lB (hs.bl d0) 5 rfl ?_)
   refine ⟨hs.keep, ?_⟩
   refine aRun [10, 11, 12, 13] 4 hs.keep ?_
   refine aO1 14 rfl (sB (v := iv x58) hs cw6 ?_)
   intro h hs
   refine ⟨hs.keep, ?_⟩
   replace hs := bk0 hs ct1 rfl
   refine aOL 15 rfl (owp_pure (pv b0) (by kernel_rfl) ?_)
   refine aOL 16 rfl (owp_pure (.pointer (some ⟨b0, 5, none⟩)) (by kernel_rfl) ?_)
   refine aOL 17 rfl (sB (v := iv (mn (w64 (2 * x58)) 16)) hs cw5 ?_)
   intro h hs
   refine aEnd ?_
   exact k_end ⟨x51, x56, x57, (mn (w64 (2 * x58)) 16), x58, x60, a52, p53, x51.length, I, H, ft, hs.pk (.c d1 (.c d0 (.c d0 .n)))⟩
  refine aA rfl (lB (hs.bl d0) 5 rfl ?_)
  refine ⟨hs.keep, ?_⟩
  refine aRun [10, 11] 7 hs.keep ?_
  refine aO1 5 rfl (lB (hs.bl d0) 5 rfl ?_)
  refine ⟨hs.keep, ?_⟩
  refine aRun [12, 13] 4 hs.keep ?_
  refine aO1 14 rfl (sB (v := iv x58) hs cw6 ?_)
  intro h hs
  refine ⟨hs.keep, ?_⟩
  replace hs := bk0 hs ct1 rfl
  refine aOL 15 rfl (owp_pure (pv b0) (by kernel_rfl) ?_)
  refine aOL 16 rfl (owp_pure (.pointer (some ⟨b0, 5, none⟩)) (by kernel_rfl) ?_)
  refine aOL 17 rfl (sB (v := iv (mn (w64 (2 * x58)) 16)) hs cw5 ?_)
  intro h hs
  refine aEnd ?_
  exact k_end ⟨x51, x56, x57, (mn (w64 (2 * x58)) 16), x58, x60, a52, p53, x51.length, I, H, ft, hs.pk (.c d1 (.c d0 (.c d0 .n)))⟩
 clear HR61 m62 H
 rintro k' ρ h ⟨x39, x44, x45, x46, x47, x48, x49, a40, p41, n42, I, H, hf, hs⟩
 cases k' with
 | zero => cases H
 | succ k =>
  rw [line_Line_Tick.l1.m] at H
  refine k_fits _ hf ?_ rfl
  cases hs.nO d0
  refine st 1 [] ?_
  obtain ⟨j65, e89, H⟩ := letJ_some H
  refine k_joinT (fun T ρ h => ∃ (x64 : Bool), ∃ I, j65 x64 = some s50 ∧ Fits [(0, pv b0), (3, .slice a40 x39.length p41), (44, .slice (slA a21 p22 (Int.toNat (0 : Int)) 4) ((sub x0.queue' 0 (mn 8 (x0.queue'.length : Int))).length) (p22 - Int.toNat (0 : Int))), (45, iv ((sub x0.queue' 0 (mn 8 (x0.queue'.length : Int))).length : Int)), (46, iv x44), (47, .bool x64)] ρ ∧ St E T I h) hs tl0 ?_ ?_
  ·refine st 1 [] (k_ite H (fun c63 H => ?_) (fun c63 H => ?_))
   ·exact st 1 [] (k_end ⟨true, I, H, ft, hs⟩)
   exact st 1 [] (k_end ⟨false, I, H, ft, hs⟩)
  clear H
  rintro ρ h ⟨x64, I, H, hf, hs⟩
  refine k_fits _ hf ?_ rfl
  subst e89
  try dsimp only at H
  cases x64
  ·rw [cond_false] at H
   refine st 2 [false] (k_out rfl ?_)
   obtain rfl := si H
   exact xE ⟨x39, x45, x46, x47, x48, x49, a40, p41, x39.length, I, rfl, ft, hs.pk (.c d0 (.c d0 (.c d0 .n)))⟩
  rw [cond_true] at H
  obtain ⟨c66, H⟩ := guard_pos H
  obtain ⟨c67, H⟩ := guard_pos H
  refine st 7 [true] (k_val (elemPtr (slA a21 p22 (Int.toNat (0 : Int)) 4) (x44.toNat * 4)) (pI (e := 108) (ik := .i64) (Sn.part (hs.sO d2) (lo := 0) (hi := (mn 8 (x0.queue'.length : Int))) (Int.le_refl 0) c37 c38) c66 c67) ?_)
  obtain ⟨y69, g68, q70⟩ := (Sn.part (hs.sO d2) (lo := 0) (hi := (mn 8 (x0.queue'.length : Int))) (Int.le_refl 0) c37 c38).toSl.seg c66 c67
  obtain ⟨a71, p72, n73, rfl, q75⟩ := t_api_Pack.open_ q70
  obtain rfl := q75.2
  replace hs := hs.pR q75
  refine k_op (lG g68 ?_)
  refine k_op (nA hs [iv 0, iv 0, .bool false, .slice none 0 0] (.agg #[iv 0, iv 0, .bool false, .slice none 0 0]) ?_)
  intro b76 h hs
  refine k_op (sN0 hs [iv ((at_ (sub x0.queue' 0 (mn 8 (x0.queue'.length : Int))) x44).Ack), iv ((at_ (sub x0.queue' 0 (mn 8 (x0.queue'.length : Int))) x44).Num), .bool ((at_ (sub x0.queue' 0 (mn 8 (x0.queue'.length : Int))) x44).Last), .slice a71 (((at_ (sub x0.queue' 0 (mn 8 (x0.queue'.length : Int))) x44).Data).length) p72] (ones_of rfl) ?_)
  intro h hs
  refine st 4 [] (k_op (lN (hs.bl d0) 0 4 ?_))
  obtain ⟨hk, bk⟩ := (hs.f d3).call tk1 (.c (qI d1) .n)
  refine k_call H (fun _ m => line_Line_told.calls m hk) ?_
  rintro t77 _ h H ⟨I, _, ⟨a78, p79, n80, rfl, rfl⟩, hk⟩
  replace hs := bk hk ct2 rfl
  cases hs.nO d0
  obtain ⟨I, hs⟩ := hs.fO
  refine k_op (nS (e := 108) hs .i t_api_Pack ([t77.1] : List api_Pack) [iv t77.1.Ack, iv t77.1.Num, .bool t77.1.Last, .slice a78 t77.1.Data.length p79] 4 (.agg #[iv 0, iv 0, .bool false, .slice none 0 0]) (Reps.cons (T := t_api_Pack) (c := [iv t77.1.Ack, iv t77.1.Num, .bool t77.1.Last, .slice a78 t77.1.Data.length p79]) (x := t77.1) ⟨_, _, _, rfl, (hs.g d0)⟩ (.nil : Reps t_api_Pack (Cl.G .i E.B I) h [] [])) ?_)
  intro b82 h hs
  replace hs := (hs.f d5)
  obtain ⟨l84, m85, H⟩ := bind_some H
  refine k_op (aO (e := 108) (bytes := 48) hs (hs.sO d1) m85 ?_)
  intro a86 p87 h hs
  exact st 7 [] (k_endL ⟨k, Nat.lt_succ_self _, l84, (w64 (x44 + 1)), t77.2.given', t77.2.await', t77.2.wait', t77.2.left', t77.2.owes', a86, p87, l84.length, I, H, ft, hs.pk (.c d0 (.c d2 (.c d4 .n)))⟩)
def piece_may.m (x0 : api_Pack) : Option Bool :=
  (letJ (α := Bool → Option Bool) (fun (x30 : Bool) => (bif x30 then (some false) else (if x0.Num = 0 then (bif x0.Last then (some false) else (some ((x0.Data.length : Int) == 0))) else (if (x0.Data.length : Int) = 64 then (some true) else (bif x0.Last then (if (x0.Data.length : Int) ≥ 1 then (some (decide ((x0.Data.length : Int) < 64))) else (some false)) else (some false)))))) fun (j31 : Bool → Option Bool) => (if x0.Ack < 0 then (j31 true) else (if x0.Ack > 2147483647 then (j31 true) else (if x0.Num < 0 then (j31 true) else (if x0.Num > 2147483647 then (j31 true) else (j31 false))))))
theorem piece_may.calls {B I : Gh} {h : Heap} {x0 : api_Pack} {a21 : Option Addr} {p22 : Nat} {n23 : Nat} {r : Bool} (H : piece_may.m x0 = some r)  :
    Fc Tryz.prog 196 #[.agg #[iv x0.Ack, iv x0.Num, .bool x0.Last, .slice a21 n23 p22]] [rR (tInt .u8) .b a21 p22 n23 x0.Data] B I h (fun v L => v = .bool r ∧ L = []) := by
 refine fc_of fun E hs => ?_
 unfold piece_may.m at H
 cases hs.nR d0
 refine fn_of (rs := [.tmp 2]) (N := 51) Tryz.func196 rfl rfl rfl rfl ?_
 refine st 2 [] (k_op (nB hs [iv x0.Ack, iv x0.Num, .bool x0.Last, .slice a21 x0.Data.length p22] ?_))
 intro b25 h hs
 refine st 5 [] (k_op (lB (hs.bl d0) 3 rfl ?_))
 refine st 6 [] ?_
 obtain ⟨j31, e37, H⟩ := letJ_some H
 refine k_joinT (fun T ρ h => ∃ (x30 : Bool), ∃ I, j31 x30 = some r ∧ Fits [(1, pv b25), (3, iv (x0.Data.length : Int)), (7, .bool x30)] ρ ∧ St E T I h) hs tl0 ?_ ?_
 ·refine st 2 [] (k_op (lB (hs.bl d0) 0 rfl ?_))
  refine k_ite H (fun c26 H => ?_) (fun c26 H => ?_)
  ·exact st 17 [] (k_end ⟨true, I, H, ft, hs⟩)
  refine st 2 [] (k_op (lB (hs.bl d0) 0 rfl ?_))
  refine k_ite H (fun c27 H => ?_) (fun c27 H => ?_)
  ·exact st 13 [] (k_end ⟨true, I, H, ft, hs⟩)
  refine st 3 [] (k_op (lB (hs.bl d0) 1 rfl ?_))
  refine k_ite H (fun c28 H => ?_) (fun c28 H => ?_)
  ·exact st 8 [] (k_end ⟨true, I, H, ft, hs⟩)
  refine st 3 [] (k_op (lB (hs.bl d0) 1 rfl ?_))
  refine k_ite H (fun c29 H => ?_) (fun c29 H => ?_)
  ·exact st 3 [] (k_end ⟨true, I, H, ft, hs⟩)
  exact st 3 [] (k_end ⟨false, I, H, ft, hs⟩)
 clear H
 rintro ρ h ⟨x30, I, H, hf, hs⟩
 refine k_fits _ hf ?_ rfl
 subst e37
 try dsimp only at H
 cases x30
 rotate_left
 ·rw [cond_true] at H
  obtain rfl := si H
  exact st 5 [true] (k_retQ ⟨_, by kernel_rfl, I, _, ⟨rfl, rfl⟩, hs.pk .n⟩)
 rw [cond_false] at H
 refine st 4 [false] (k_op (lB (hs.bl d0) 1 rfl ?_))
 refine k_ite H (fun c32 H => ?_) (fun c32 H => ?_)
 ·refine st 6 [true] (k_op (lB (hs.bl d0) 2 rfl ?_))
  refine k_spl H (fun c33 H => ?_) (fun c33 H => ?_)
  ·obtain rfl := si H
   exact st 7 [] (k_retQ ⟨_, by kernel_rfl, I, _, ⟨rfl, rfl⟩, hs.pk .n⟩)
  obtain rfl := si H
  exact st 7 [] (k_retQ ⟨_, by kernel_rfl, I, _, ⟨rfl, rfl⟩, hs.pk .n⟩)
 refine st 8 [false] (k_ite H (fun c34 H => ?_) (fun c34 H => ?_))
 ·obtain rfl := si H
  exact st 14 [] (k_retQ ⟨_, by kernel_rfl, I, _, ⟨rfl, rfl⟩, hs.pk .n⟩)
 refine st 2 [] (k_op (lB (hs.bl d0) 2 rfl ?_))
 refine k_spl H (fun c35 H => ?_) (fun c35 H => ?_)
 rotate_left
 ·obtain rfl := si H
  exact st 11 [] (k_retQ ⟨_, by kernel_rfl, I, _, ⟨rfl, rfl⟩, hs.pk .n⟩)
 refine st 2 [] (k_ite H (fun c36 H => ?_) (fun c36 H => ?_))
 ·obtain rfl := si H
  exact st 8 [] (k_retQ ⟨_, by kernel_rfl, I, _, ⟨rfl, rfl⟩, hs.pk .n⟩)
 obtain rfl := si H
 exact st 8 [] (k_retQ ⟨_, by kernel_rfl, I, _, ⟨rfl, rfl⟩, hs.pk .n⟩)
def slices_Grow_bytes.m (x1 : Int) : Option (List Int) :=
  (if x1 < 0 then none else (letJ (α := Bool → Option (List Int)) (fun (x23 : Bool) => (bif x23 then ((gz (w64 (x1 - (w64 (0 - 0)))) 0).bind fun l25 => (if 0 ≤ (l25.length : Int) then (some (sub l25 0 0)) else none)) else (some []))) fun (j24 : Bool → Option (List Int)) => (if (w64 (x1 - (w64 (0 - 0)))) > 0 then (j24 true) else (j24 false))))
theorem slices_Grow_bytes.calls {B I : Gh} {h : Heap} {x1 : Int} {r : (List Int)} (H : slices_Grow_bytes.m x1 = some r)  :
    Fc Tryz.prog 242 #[.slice none 0 0, iv x1] [] B I h (fun v L => ∃ a33 p34 n35, v = .slice a33 n35 p34 ∧ L = [rO (tInt .u8) .i a33 p34 n35 r]) := by
 refine fc_of fun E hs => ?_
 unfold slices_Grow_bytes.m at H
 refine fn_of (rs := [.tmp 4]) (N := 27) Tryz.func242 rfl rfl rfl rfl ?_
 refine st 8 [] (k_ite H (fun c21 H => ?_) (fun c21 H => ?_))
 ·cases H
 refine st 16 [false] ?_
 obtain ⟨j24, e32, H⟩ := letJ_some H
 refine k_join (fun ρ h => ∃ (x23 : Bool), ∃ I, j24 x23 = some r ∧ Fits [(0, .slice none 0 0), (1, iv (w64 (x1 - (w64 (0 - 0))))), (16, .bool x23)] ρ ∧ St E [] I h) ?_ ?_
 ·refine st 2 [] (k_ite H (fun c22 H => ?_) (fun c22 H => ?_))
  ·exact st 1 [] (k_end ⟨true, I, H, ft, hs.pk .n⟩)
  exact st 1 [] (k_end ⟨false, I, H, ft, hs.pk .n⟩)
 clear H
 rintro ρ h ⟨x23, I, H, hf, hs⟩
 refine k_fits _ hf ?_ rfl
 subst e32
 try dsimp only at H
 cases x23
 ·rw [cond_false] at H
  obtain rfl := si H
  exact st 7 [false] (k_retQ ⟨_, by kernel_rfl, I, _, ⟨none, 0, 0, rfl, rfl⟩, hs.pk (.f imON .n)⟩)
 rw [cond_true] at H
 obtain ⟨l25, m26, H⟩ := bind_some H
 refine st 7 [true] (k_op (aZ (T := (tInt .u8)) (e := 5) (kn := .i64) 0 (.int .u8 0) hs m26 ?_ (fun _ _ => rfl)))
 intro b27 p29 h hs
 obtain ⟨c30, H⟩ := guard_pos H
 refine st 2 [] (k_val (.slice (slA (sa b27) p29 (Int.toNat (0 : Int)) 1) ((sub l25 0 0).length) (p29 - Int.toNat (0 : Int))) (pSh (e := 5) (k2 := .i64) (hs.sO d0) (Int.le_refl 0) (by decide) c30) ?_)
 obtain rfl := si H
 replace hs := hs.partO (lo := 0) (hi := 0) (Int.le_refl 0) (by decide) c30
 exact st 7 [] (k_retQ ⟨_, by kernel_rfl, I, _, ⟨(slA (sa b27) p29 (Int.toNat (0 : Int)) 1), (p29 - Int.toNat (0 : Int)), (sub l25 0 0).length, rfl, rfl⟩, hs.pk (.c d0 .n)⟩)
def slices_Concat_bytes.l1.m (K : Nat) (x0 : (List (List Int))) : Nat → Int → Int → Option (Int)
  | 0, _, _ => none
  | k + 1, x25, x26 => (letJ (α := Bool → Option (Int)) (fun (x32 : Bool) => (bif x32 then (if 0 ≤ x26 then (if x26 < (x0.length : Int) then (if (w64 (x25 + ((at_ x0 x26).length : Int))) < 0 then none else (slices_Concat_bytes.l1.m K x0 k (w64 (x25 + ((at_ x0 x26).length : Int))) (w64 (x26 + 1)))) else none) else none) else (some (x25)))) fun (j33 : Bool → Option (Int)) => (if x26 < (x0.length : Int) then (j33 true) else (j33 false)))
def slices_Concat_bytes.l2.m (K : Nat) (x0 : (List (List Int))) : Nat → (List Int) → Int → Option ((List Int))
  | 0, _, _ => none
  | k + 1, x51, x56 => (if x56 < (x0.length : Int) then (if 0 ≤ x56 then ((app x51 (at_ x0 x56)).bind fun l75 => (slices_Concat_bytes.l2.m K x0 k l75 (w64 (x56 + 1)))) else none) else (some (x51)))
def slices_Concat_bytes.m (K : Nat) (x0 : (List (List Int))) : Option (List Int) :=
  ((slices_Concat_bytes.l1.m K x0 K 0 0).bind fun x28 => ((slices_Grow_bytes.m x28).bind fun t46 => ((slices_Concat_bytes.l2.m K x0 K t46 0).bind fun x58 => (some x58))))
theorem slices_Concat_bytes.calls {B I : Gh} {h : Heap} {K : Nat} {x0 : (List (List Int))} {a21 : Option Addr} {p22 : Nat} {n23 : Nat} {r : (List Int)} (H : slices_Concat_bytes.m K x0 = some r)  :
    Fc Tryz.prog 197 #[.slice a21 n23 p22] [rR (tSl (tInt .u8)) .b a21 p22 n23 x0] B I h (fun v L => ∃ a80 p81 n82, v = .slice a80 n82 p81 ∧ L = [rO (tInt .u8) .i a80 p81 n82 r]) := by
 refine fc_of fun E hs => ?_
 unfold slices_Concat_bytes.m at H
 cases hs.nR d0
 refine fn_of (rs := [.tmp 2]) (N := 36) Tryz.func197 rfl rfl rfl rfl ?_
 refine st 16 [] ?_
 obtain ⟨s27, m30, HR29⟩ := bind_some H
 refine k_loop 0 (fun k' ρ h => ∃ (x25 : Int) (x26 : Int), ∃ I, slices_Concat_bytes.l1.m K x0 k' x25 x26 = some s27 ∧ Fits [(0, .slice a21 x0.length p22), (3, iv x25), (9, .slice a21 x0.length p22), (10, iv (x0.length : Int)), (11, iv x26)] ρ ∧ St E [rR (tSl (tInt .u8)) .b a21 p22 x0.length x0] I h) (fun ρ h => ∃ (x28 : Int), ∃ I, x28 = s27 ∧ Fits [(0, .slice a21 x0.length p22), (3, iv x28)] ρ ∧ St E [rR (tSl (tInt .u8)) .b a21 p22 x0.length x0] I h) K ⟨0, 0, I, m30, ft, hs.pk (.c d0 .n)⟩ ?_ rfl ?_
 ·clear HR29 m30 H
  rintro k' ρ h ⟨x25, x26, I, H, hf, hs⟩
  cases k' with
  | zero => cases H
  | succ k =>
   rw [slices_Concat_bytes.l1.m] at H
   refine k_fits _ hf ?_ rfl
   refine st 1 [] ?_
   obtain ⟨j33, e45, H⟩ := letJ_some H
   refine k_join (fun ρ h => ∃ (x32 : Bool), ∃ I, j33 x32 = some s27 ∧ Fits [(0, .slice a21 x0.length p22), (3, iv x25), (9, .slice a21 x0.length p22), (10, iv (x0.length : Int)), (11, iv x26), (12, .bool x32)] ρ ∧ St E [rR (tSl (tInt .u8)) .b a21 p22 x0.length x0] I h) ?_ ?_
   ·refine st 1 [] (k_ite H (fun c31 H => ?_) (fun c31 H => ?_))
    ·exact st 1 [] (k_end ⟨true, I, H, ft, hs.pk (.c d0 .n)⟩)
    exact st 1 [] (k_end ⟨false, I, H, ft, hs.pk (.c d0 .n)⟩)
   clear H
   rintro ρ h ⟨x32, I, H, hf, hs⟩
   refine k_fits _ hf ?_ rfl
   subst e45
   try dsimp only at H
   cases x32
   ·rw [cond_false] at H
    refine st 2 [false] (k_out rfl ?_)
    obtain rfl := si H
    exact xE ⟨x25, I, rfl, ft, hs.pk (.c d0 .n)⟩
   rw [cond_true] at H
   obtain ⟨c34, H⟩ := guard_pos H
   obtain ⟨c35, H⟩ := guard_pos H
   refine st 7 [true] (k_val (elemPtr a21 (x26.toNat * 1)) (pI (e := 31) (ik := .i64) (hs.sR d0) c34 c35) ?_)
   obtain ⟨y37, g36, q38⟩ := (hs.sR d0).toSl.seg c34 c35
   obtain ⟨a39, p40, n41, rfl, q43⟩ := rep_sl q38
   obtain rfl := q43.2
   replace hs := hs.pR q43
   refine k_op (lC (seg_cell (f := 0) g36 rfl) ?_)
   refine st 13 [] (k_ite H (fun c44 H => ?_) (fun c44 H => ?_))
   ·cases H
   exact st 8 [false] (k_endL ⟨k, Nat.lt_succ_self _, (w64 (x25 + ((at_ x0 x26).length : Int))), (w64 (x26 + 1)), I, H, ft, hs.pk (.c d1 .n)⟩)
 rintro ρ h ⟨x28, I, rfl, hf, hs⟩
 have H := HR29
 try dsimp only at H
 refine k_fits _ hf ?_ rfl
 obtain ⟨hk, bk⟩ := hs.call tk0 .n
 refine st 3 [] (k_call H (fun _ m => slices_Grow_bytes.calls m hk) ?_)
 rintro t46 _ h H ⟨I, _, ⟨a47, p48, n49, rfl, rfl⟩, hk⟩
 replace hs := bk hk ct1 rfl
 cases hs.nO d0
 refine st 10 [] ?_
 obtain ⟨s57, m64, HR63⟩ := bind_some H
 refine k_loop 2 (fun k' ρ h => ∃ (x51 : List Int) (x56 : Int), ∃ a52 p53 n54 I, slices_Concat_bytes.l2.m K x0 k' x51 x56 = some s57 ∧ Fits [(6, .slice a52 n54 p53), (25, .slice a21 x0.length p22), (26, iv (x0.length : Int)), (27, iv x56)] ρ ∧ St E [rO (tInt .u8) .i a52 p53 n54 x51, rR (tSl (tInt .u8)) .b a21 p22 x0.length x0] I h) (fun ρ h => ∃ (x58 : List Int), ∃ a59 p60 n61 I, x58 = s57 ∧ Fits [(6, .slice a59 n61 p60)] ρ ∧ St E [rO (tInt .u8) .i a59 p60 n61 x58, rR (tSl (tInt .u8)) .b a21 p22 x0.length x0] I h) K ⟨t46, 0, a47, p48, t46.length, I, m64, ft, hs.pk (.c d0 (.c d0 .n))⟩ ?_ rfl ?_
 rotate_left
 ·rintro ρ h ⟨x58, a59, p60, n61, I, rfl, hf, hs⟩
  have H := HR63
  try dsimp only at H
  refine k_fits _ hf ?_ rfl
  cases hs.nO d0
  obtain rfl := si H
  exact st 5 [] (k_retQ ⟨_, by kernel_rfl, I, _, ⟨a59, p60, x58.length, rfl, rfl⟩, hs.pk (.c d0 .n)⟩)
 clear HR63 m64 H
 rintro k' ρ h ⟨x51, x56, a52, p53, n54, I, H, hf, hs⟩
 cases k' with
 | zero => cases H
 | succ k =>
  rw [slices_Concat_bytes.l2.m] at H
  refine k_fits _ hf ?_ rfl
  cases hs.nO d0
  refine st 2 [] (k_ite H (fun c65 H => ?_) (fun c65 H => ?_))
  rotate_left
  ·refine st 3 [false] (k_out rfl ?_)
   obtain rfl := si H
   exact xE ⟨x51, a52, p53, x51.length, I, rfl, ft, hs.pk (.c d0 (.c d0 .n))⟩
  obtain ⟨c66, H⟩ := guard_pos H
  refine st 8 [true] (k_val (elemPtr a21 (x56.toNat * 1)) (pI (e := 31) (ik := .i64) (hs.sR d1) c66 c65) ?_)
  obtain ⟨y68, g67, q69⟩ := (hs.sR d1).toSl.seg c66 c65
  obtain ⟨a70, p71, n72, rfl, q74⟩ := rep_sl q69
  obtain rfl := q74.2
  replace hs := hs.pR q74
  refine k_op (lC (seg_cell (f := 0) g67 rfl) ?_)
  replace hs := (hs.f d1)
  obtain ⟨l75, m76, H⟩ := bind_some H
  refine st 5 [] (k_op (aO (e := 5) (bytes := 1) hs ((hs.sR d1).flat flat_int) m76 ?_))
  intro a77 p78 h hs
  exact st 7 [] (k_endL ⟨k, Nat.lt_succ_self _, l75, (w64 (x56 + 1)), a77, p78, l75.length, I, H, ft, hs.pk (.c d0 (.c d1 .n))⟩)
def piece_number.m (x0 : Int) : Option (List Int) :=
  (some [(IntKind.u8.wrap ((shr .i64 x0 24))), (IntKind.u8.wrap ((shr .i64 x0 16))), (IntKind.u8.wrap ((shr .i64 x0 8))), (IntKind.u8.wrap (x0))])
theorem piece_number.calls {B I : Gh} {h : Heap} {x0 : Int} {r : (List Int)} (H : piece_number.m x0 = some r)  :
    Fc Tryz.prog 198 #[iv x0] [] B I h (fun v L => ∃ a23 p24 n25, v = .slice a23 n25 p24 ∧ L = [rO (tInt .u8) .i a23 p24 n25 r]) := by
 refine fc_of fun E hs => ?_
 unfold piece_number.m at H
 refine fn_of (rs := [.tmp 2]) (N := 15) Tryz.func198 rfl rfl rfl rfl ?_
 refine st 17 [] (k_op (nS (e := 5) hs .i (tInt .u8) ([(IntKind.u8.wrap ((shr .i64 x0 24))), (IntKind.u8.wrap ((shr .i64 x0 16))), (IntKind.u8.wrap ((shr .i64 x0 8))), (IntKind.u8.wrap (x0))] : List Int) [.int .u8 (IntKind.u8.wrap ((shr .i64 x0 24))), .int .u8 (IntKind.u8.wrap ((shr .i64 x0 16))), .int .u8 (IntKind.u8.wrap ((shr .i64 x0 8))), .int .u8 (IntKind.u8.wrap (x0))] 1 (.int .u8 0) (Reps.int (I := (Cl.G .i E.B I)) (k := .u8) (l := [(IntKind.u8.wrap ((shr .i64 x0 24))), (IntKind.u8.wrap ((shr .i64 x0 16))), (IntKind.u8.wrap ((shr .i64 x0 8))), (IntKind.u8.wrap (x0))])) ?_))
 intro b21 h hs
 obtain rfl := si H
 exact st 2 [] (k_retQ ⟨_, by kernel_rfl, I, _, ⟨(sa b21), 4, 4, rfl, rfl⟩, hs.pk (.c d0 .n)⟩)
def piece_Write.m (K : Nat) (x0 : api_Pack) : Option ((List Int) × GoErr) :=
  ((piece_may.m x0).bind fun t26 => bif t26 then (letJ (α := Int → Option ((List Int) × GoErr)) (fun (x28 : Int) => ((piece_number.m x0.Ack).bind fun t30 => ((piece_number.m x0.Num).bind fun t35 => ((slices_Concat_bytes.m K ([t30, t35, [x28], x0.Data])).bind fun t44 => (some (t44, GoErr.nil)))))) fun (j29 : Int → Option ((List Int) × GoErr)) => (bif x0.Last then (j29 1) else (j29 0))) else (some ([], (GoErr.no 1))))
theorem piece_Write.calls {B I : Gh} {h : Heap} {K : Nat} {x0 : api_Pack} {a21 : Option Addr} {p22 : Nat} {n23 : Nat} {r : ((List Int) × GoErr)} (H : piece_Write.m K x0 = some r)  :
    Fc Tryz.prog 138 #[.agg #[iv x0.Ack, iv x0.Num, .bool x0.Last, .slice a21 n23 p22]] [rR (tInt .u8) .b a21 p22 n23 x0.Data] B I h (fun v L => ∃ a83 p84 n85 v87, v = .tuple #[.slice a83 n85 p84, v87] ∧ L = [rO (tInt .u8) .i a83 p84 n85 r.1, rE .i v87 r.2]) := by
 refine fc_of fun E hs => ?_
 unfold piece_Write.m at H
 cases hs.nR d0
 refine fn_of (rs := [.tmp 2, .tmp 3]) (N := 23) Tryz.func138 rfl rfl rfl rfl ?_
 refine st 2 [] (k_op (nB hs [iv x0.Ack, iv x0.Num, .bool x0.Last, .slice a21 x0.Data.length p22] ?_))
 intro b25 h hs
 refine st 6 [] (k_op (lN (hs.bl d0) 0 4 ?_))
 obtain ⟨hk, bk⟩ := hs.call tk0 (.c (qB d1) .n)
 refine k_call H (fun _ m => piece_may.calls m hk) ?_
 rintro t26 _ h H ⟨I, _, ⟨rfl, rfl⟩, hk⟩
 replace hs := bk hk ct0 rfl
 cases t26
 ·rw [cond_false] at H
  obtain rfl := si H
  exact st 9 [true] (k_retQ ⟨_, by kernel_rfl, I, _, ⟨none, 0, 0, (.iface 137 (iv 1)), rfl, rfl⟩, hs.pk (.f imON (.f imEC .n))⟩)
 rw [cond_true] at H
 refine st 9 [false] ?_
 obtain ⟨j29, e82, H⟩ := letJ_some H
 refine k_joinT (fun T ρ h => ∃ (x28 : Int), ∃ I, j29 x28 = some r ∧ Fits [(1, pv b25), (4, .int .u8 x28)] ρ ∧ St E T I h) hs tl0 ?_ ?_
 ·refine st 3 [] (k_op (lB (hs.bl d0) 2 rfl ?_))
  refine k_spl H (fun c27 H => ?_) (fun c27 H => ?_)
  ·exact st 5 [true] (k_end ⟨1, I, H, ft, hs⟩)
  exact st 3 [false] (k_end ⟨0, I, H, ft, hs⟩)
 clear H
 rintro ρ h ⟨x28, I, H, hf, hs⟩
 refine k_fits _ hf ?_ rfl
 subst e82
 try dsimp only at H
 refine st 1 [] ?_
 obtain ⟨hs0, bk0⟩ := hs.call tk0 (.c (qL d0) (.c (qB d1) .n))
 have hs := hs0
 refine k_regD hs0 14 ?_
 refine aRun [0] 13 hs.keep ?_
 refine aL 1 rfl hs.keep (ll hs0 d0 (n := 0) rfl) (nmL hs0 d0) ?_
 refine aRun [3] 11 hs.keep ?_
 refine aL 4 rfl hs.keep (ll hs0 d0 (n := 1) rfl) (nmL hs0 d0) ?_
 refine aRun [6, 8] 8 hs.keep ?_
 refine aL 9 rfl hs.keep (ll hs0 d0 (n := 3) rfl) (nmL hs0 d0) ?_
 refine aT2 2 7 ?_ ?_
 rotate_left
 ·refine aA rfl (nS (e := 5) hs .i (tInt .u8) ([x28] : List Int) [.int .u8 x28] 1 (.int .u8 0) (Reps.int (I := (Cl.G .i E.B I)) (k := .u8) (l := [x28])) ?_)
  intro b63 h hs
  refine ⟨hs.keep, ?_⟩
  obtain ⟨hk, bk⟩ := hs.call tk0 .n
  refine aO1 2 rfl (o_call H (fun _ m => piece_number.calls m hk) ?_)
  rintro t65 _ h H ⟨I, _, ⟨a66, p67, n68, rfl, rfl⟩, hk⟩
  replace hs := bk hk ct1 rfl
  cases hs.nO d0
  refine ⟨hs.keep, ?_⟩
  obtain ⟨hk, bk⟩ := hs.call tk0 .n
  refine aO1 5 rfl (o_call H (fun _ m => piece_number.calls m hk) ?_)
  rintro t70 _ h H ⟨I, _, ⟨a71, p72, n73, rfl, rfl⟩, hk⟩
  replace hs := bk hk ct1 rfl
  cases hs.nO d0
  refine ⟨hs.keep, ?_⟩
  obtain ⟨I, hs⟩ := (hs.f d1).fO
  obtain ⟨I, hs⟩ := (hs.f d1).fO
  obtain ⟨I, hs⟩ := (hs.f d2).fO
  refine aO1 10 rfl (nS (e := 31) hs .b (tSl (tInt .u8)) ([t65, t70, [x28], x0.Data] : List (List Int)) [.slice a66 t65.length p67, .slice a71 t70.length p72, .slice (sa b63) 1 1, .slice a21 x0.Data.length p22] 1 (.slice none 0 0) (Reps.cons (T := (tSl (tInt .u8))) (c := [.slice a66 t65.length p67]) (x := t65) ⟨_, _, _, rfl, (imIB.2 (B := _) (hs.g d2))⟩ (Reps.cons (T := (tSl (tInt .u8))) (c := [.slice a71 t70.length p72]) (x := t70) ⟨_, _, _, rfl, (imIB.2 (B := _) (hs.g d1))⟩ (Reps.cons (T := (tSl (tInt .u8))) (c := [.slice (sa b63) 1 1]) (x := [x28]) ⟨_, _, _, rfl, (imIB.2 (B := _) (hs.g d0))⟩ (Reps.cons (T := (tSl (tInt .u8))) (c := [.slice a21 x0.Data.length p22]) (x := x0.Data) ⟨_, _, _, rfl, (hs.g d4)⟩ (.nil : Reps (tSl (tInt .u8)) (Cl.G .b _ I) h [] []))))) ?_)
  intro b75 h hs
  refine ⟨hs.keep, ?_⟩
  obtain ⟨hk, bk⟩ := hs.call tk0 (.c (qO d0) .n)
  refine aO1 11 rfl (o_call H (fun _ m => slices_Concat_bytes.calls m hk) ?_)
  rintro t77 _ h H ⟨I, _, ⟨a78, p79, n80, rfl, rfl⟩, hk⟩
  replace hs := bk hk ct1 rfl
  cases hs.nO d0
  refine ⟨hs.keep, ?_⟩
  refine aRun [12, 13] 0 hs.keep ?_
  replace hs := hs.pk (.c d0 (.c d1 (.c d1 (.c d1 .n))))
  replace hs := bk0 hs ct4 rfl
  refine aEnd ?_
  obtain rfl := si H
  exact k_retQ ⟨_, by kernel_rfl, I, _, ⟨a78, p79, t77.length, (.nilIface), rfl, rfl⟩, hs.pk (.c d0 (.f imEN .n))⟩
 obtain ⟨hk, bk⟩ := hs.call tk0 .n
 refine aA rfl (o_call H (fun _ m => piece_number.calls m hk) ?_)
 rintro t30 _ h H ⟨I, _, ⟨a31, p32, n33, rfl, rfl⟩, hk⟩
 replace hs := bk hk ct1 rfl
 cases hs.nO d0
 refine ⟨hs.keep, ?_⟩
 refine aT2 5 7 ?_ ?_
 ·obtain ⟨hk, bk⟩ := hs.call tk0 .n
  refine aA rfl (o_call H (fun _ m => piece_number.calls m hk) ?_)
  rintro t35 _ h H ⟨I, _, ⟨a36, p37, n38, rfl, rfl⟩, hk⟩
  replace hs := bk hk ct1 rfl
  cases hs.nO d0
  refine ⟨hs.keep, ?_⟩
  refine aO1 7 rfl (nS (e := 5) hs .i (tInt .u8) ([x28] : List Int) [.int .u8 x28] 1 (.int .u8 0) (Reps.int (I := (Cl.G .i E.B I)) (k := .u8) (l := [x28])) ?_)
  intro b40 h hs
  refine ⟨hs.keep, ?_⟩
  obtain ⟨I, hs⟩ := (hs.f d2).fO
  obtain ⟨I, hs⟩ := (hs.f d2).fO
  obtain ⟨I, hs⟩ := (hs.f d2).fO
  refine aO1 10 rfl (nS (e := 31) hs .b (tSl (tInt .u8)) ([t30, t35, [x28], x0.Data] : List (List Int)) [.slice a31 t30.length p32, .slice a36 t35.length p37, .slice (sa b40) 1 1, .slice a21 x0.Data.length p22] 1 (.slice none 0 0) (Reps.cons (T := (tSl (tInt .u8))) (c := [.slice a31 t30.length p32]) (x := t30) ⟨_, _, _, rfl, (imIB.2 (B := _) (hs.g d2))⟩ (Reps.cons (T := (tSl (tInt .u8))) (c := [.slice a36 t35.length p37]) (x := t35) ⟨_, _, _, rfl, (imIB.2 (B := _) (hs.g d1))⟩ (Reps.cons (T := (tSl (tInt .u8))) (c := [.slice (sa b40) 1 1]) (x := [x28]) ⟨_, _, _, rfl, (imIB.2 (B := _) (hs.g d0))⟩ (Reps.cons (T := (tSl (tInt .u8))) (c := [.slice a21 x0.Data.length p22]) (x := x0.Data) ⟨_, _, _, rfl, (hs.g d4)⟩ (.nil : Reps (tSl (tInt .u8)) (Cl.G .b _ I) h [] []))))) ?_)
  intro b42 h hs
  refine ⟨hs.keep, ?_⟩
  obtain ⟨hk, bk⟩ := hs.call tk0 (.c (qO d0) .n)
  refine aO1 11 rfl (o_call H (fun _ m => slices_Concat_bytes.calls m hk) ?_)
  rintro t44 _ h H ⟨I, _, ⟨a45, p46, n47, rfl, rfl⟩, hk⟩
  replace hs := bk hk ct1 rfl
  cases hs.nO d0
  refine ⟨hs.keep, ?_⟩
  refine aRun [12, 13] 0 hs.keep ?_
  replace hs := hs.pk (.c d0 (.c d1 (.c d1 (.c d1 .n))))
  replace hs := bk0 hs ct4 rfl
  refine aEnd ?_
  obtain rfl := si H
  exact k_retQ ⟨_, by kernel_rfl, I, _, ⟨a45, p46, t44.length, (.nilIface), rfl, rfl⟩, hs.pk (.c d0 (.f imEN .n))⟩
 refine aA rfl (nS (e := 5) hs .i (tInt .u8) ([x28] : List Int) [.int .u8 x28] 1 (.int .u8 0) (Reps.int (I := (Cl.G .i E.B I)) (k := .u8) (l := [x28])) ?_)
 intro b49 h hs
 refine ⟨hs.keep, ?_⟩
 obtain ⟨hk, bk⟩ := hs.call tk0 .n
 refine aO1 5 rfl (o_call H (fun _ m => piece_number.calls m hk) ?_)
 rintro t51 _ h H ⟨I, _, ⟨a52, p53, n54, rfl, rfl⟩, hk⟩
 replace hs := bk hk ct1 rfl
 cases hs.nO d0
 refine ⟨hs.keep, ?_⟩
 obtain ⟨I, hs⟩ := (hs.f d2).fO
 obtain ⟨I, hs⟩ := (hs.f d1).fO
 obtain ⟨I, hs⟩ := (hs.f d2).fO
 refine aO1 10 rfl (nS (e := 31) hs .b (tSl (tInt .u8)) ([t30, t51, [x28], x0.Data] : List (List Int)) [.slice a31 t30.length p32, .slice a52 t51.length p53, .slice (sa b49) 1 1, .slice a21 x0.Data.length p22] 1 (.slice none 0 0) (Reps.cons (T := (tSl (tInt .u8))) (c := [.slice a31 t30.length p32]) (x := t30) ⟨_, _, _, rfl, (imIB.2 (B := _) (hs.g d2))⟩ (Reps.cons (T := (tSl (tInt .u8))) (c := [.slice a52 t51.length p53]) (x := t51) ⟨_, _, _, rfl, (imIB.2 (B := _) (hs.g d1))⟩ (Reps.cons (T := (tSl (tInt .u8))) (c := [.slice (sa b49) 1 1]) (x := [x28]) ⟨_, _, _, rfl, (imIB.2 (B := _) (hs.g d0))⟩ (Reps.cons (T := (tSl (tInt .u8))) (c := [.slice a21 x0.Data.length p22]) (x := x0.Data) ⟨_, _, _, rfl, (hs.g d4)⟩ (.nil : Reps (tSl (tInt .u8)) (Cl.G .b _ I) h [] []))))) ?_)
 intro b56 h hs
 refine ⟨hs.keep, ?_⟩
 obtain ⟨hk, bk⟩ := hs.call tk0 (.c (qO d0) .n)
 refine aO1 11 rfl (o_call H (fun _ m => slices_Concat_bytes.calls m hk) ?_)
 rintro t58 _ h H ⟨I, _, ⟨a59, p60, n61, rfl, rfl⟩, hk⟩
 replace hs := bk hk ct1 rfl
 cases hs.nO d0
 refine ⟨hs.keep, ?_⟩
 refine aRun [12, 13] 0 hs.keep ?_
 replace hs := hs.pk (.c d0 (.c d1 (.c d1 (.c d1 .n))))
 replace hs := bk0 hs ct4 rfl
 refine aEnd ?_
 obtain rfl := si H
 exact k_retQ ⟨_, by kernel_rfl, I, _, ⟨a59, p60, t58.length, (.nilIface), rfl, rfl⟩, hs.pk (.c d0 (.f imEN .n))⟩
def frame_numbered.m (x0 : Int) : Option Bool :=
  (if x0 ≥ 1 then (some (decide (x0 ≤ 4611686018427387904))) else (some false))
theorem frame_numbered.calls {x0 : Int} {h : Heap} {r : Bool} (H : frame_numbered.m x0 = some r)   :
    Ret Tryz.prog 200 #[iv x0] h (fun v h' => .bool r = v ∧ h' = h) := by
 unfold frame_numbered.m at H
 refine fn_of (rs := [.tmp 2]) (N := 9) Tryz.func200 rfl rfl rfl rfl ?_
 refine st 7 [] (k_ite H (fun c21 H => ?_) (fun c21 H => ?_))
 ·obtain rfl := si H
  exact st 6 [] (k_retQ ⟨_, by kernel_rfl, rfl, rfl⟩)
 obtain rfl := si H
 exact st 6 [] (k_retQ ⟨_, by kernel_rfl, rfl, rfl⟩)
def hash_digits.l1.m (K : Nat) (x0 : ByteArray) (x1 : Int) : Nat → Int → Int → Option (Int)
  | 0, _, _ => none
  | k + 1, x27, x28 => (letJ (α := Bool → Option (Int)) (fun (x34 : Bool) => (bif x34 then (if 0 ≤ x28 then (if x28 < ((strL (bsub x0 (w64 (8 * x1)) (w64 ((w64 (8 * x1)) + 8)))).length : Int) then (if (at_ (strL (bsub x0 (w64 (8 * x1)) (w64 ((w64 (8 * x1)) + 8)))) x28) ≥ 97 then (hash_digits.l1.m K x0 x1 k (bOr .u32 (shl .u32 x27 4) (IntKind.u32.wrap ((IntKind.u8.wrap ((at_ (strL (bsub x0 (w64 (8 * x1)) (w64 ((w64 (8 * x1)) + 8)))) x28) - 87))))) (w64 (x28 + 1))) else (hash_digits.l1.m K x0 x1 k (bOr .u32 (shl .u32 x27 4) (IntKind.u32.wrap ((IntKind.u8.wrap ((at_ (strL (bsub x0 (w64 (8 * x1)) (w64 ((w64 (8 * x1)) + 8)))) x28) - 48))))) (w64 (x28 + 1)))) else none) else none) else (some (x27)))) fun (j35 : Bool → Option (Int)) => (if x28 < ((strL (bsub x0 (w64 (8 * x1)) (w64 ((w64 (8 * x1)) + 8)))).length : Int) then (j35 true) else (j35 false)))
def hash_digits.m (K : Nat) (x0 : ByteArray) (x1 : Int) : Option Int :=
  (if 0 ≤ (w64 (8 * x1)) then (if (w64 (8 * x1)) ≤ (w64 ((w64 (8 * x1)) + 8)) then (if (w64 ((w64 (8 * x1)) + 8)) ≤ (x0.size : Int) then ((hash_digits.l1.m K x0 x1 K 0 0).bind fun x30 => (some x30)) else none) else none) else none)
theorem hash_digits.calls {B I : Gh} {h : Heap} {K : Nat} {x0 : ByteArray} {x1 : Int} {r : Int} (H : hash_digits.m K x0 x1 = some r)  :
    Fc Tryz.prog 309 #[.string x0, iv x1] [] B I h (fun v L => v = .int .u32 r ∧ L = []) := by
 refine fc_of fun E hs => ?_
 unfold hash_digits.m at H
 refine fn_of (rs := [.tmp 4]) (N := 35) Tryz.func309 rfl rfl rfl rfl ?_
 obtain ⟨c21, H⟩ := guard_pos H
 obtain ⟨c22, H⟩ := guard_pos H
 obtain ⟨c23, H⟩ := guard_pos H
 refine st 17 [] (k_val (.string (bsub x0 (w64 (8 * x1)) (w64 ((w64 (8 * x1)) + 8)))) (pr_sliceStr_lh (s := x0) (k1 := .i64) (k2 := .i64) (by kernel_rfl) (by kernel_rfl) (by kernel_rfl) (by kernel_rfl) c21 c22 c23) ?_)
 refine k_op (nZ (e := 5) (s := (bsub x0 (w64 (8 * x1)) (w64 ((w64 (8 * x1)) + 8)))) hs ?_)
 intro I b24 p25 h hs
 refine st 4 [] ?_
 obtain ⟨s29, m32, HR31⟩ := bind_some H
 refine k_loop 0 (fun k' ρ h => ∃ (x27 : Int) (x28 : Int), ∃ I, hash_digits.l1.m K x0 x1 k' x27 x28 = some s29 ∧ Fits [(5, .int .u32 x27), (15, .slice (sa b24) ((strL (bsub x0 (w64 (8 * x1)) (w64 ((w64 (8 * x1)) + 8)))).length) p25), (16, iv ((strL (bsub x0 (w64 (8 * x1)) (w64 ((w64 (8 * x1)) + 8)))).length : Int)), (17, iv x28)] ρ ∧ St E [rR (tInt .u8) .i (sa b24) p25 ((strL (bsub x0 (w64 (8 * x1)) (w64 ((w64 (8 * x1)) + 8)))).length) (strL (bsub x0 (w64 (8 * x1)) (w64 ((w64 (8 * x1)) + 8))))] I h) (fun ρ h => ∃ (x30 : Int), ∃ I, x30 = s29 ∧ Fits [(5, .int .u32 x30)] ρ ∧ St E [rR (tInt .u8) .i (sa b24) p25 ((strL (bsub x0 (w64 (8 * x1)) (w64 ((w64 (8 * x1)) + 8)))).length) (strL (bsub x0 (w64 (8 * x1)) (w64 ((w64 (8 * x1)) + 8))))] I h) K ⟨0, 0, I, m32, ft, hs.pk (.c d0 .n)⟩ ?_ rfl ?_
 rotate_left
 ·rintro ρ h ⟨x30, I, rfl, hf, hs⟩
  have H := HR31
  try dsimp only at H
  refine k_fits _ hf ?_ rfl
  obtain rfl := si H
  exact st 5 [] (k_retQ ⟨_, by kernel_rfl, I, _, ⟨rfl, rfl⟩, hs.pk .n⟩)
 clear HR31 m32 H
 rintro k' ρ h ⟨x27, x28, I, H, hf, hs⟩
 cases k' with
 | zero => cases H
 | succ k =>
  rw [hash_digits.l1.m] at H
  refine k_fits _ hf ?_ rfl
  refine st 1 [] ?_
  obtain ⟨j35, e39, H⟩ := letJ_some H
  refine k_join (fun ρ h => ∃ (x34 : Bool), ∃ I, j35 x34 = some s29 ∧ Fits [(5, .int .u32 x27), (15, .slice (sa b24) ((strL (bsub x0 (w64 (8 * x1)) (w64 ((w64 (8 * x1)) + 8)))).length) p25), (16, iv ((strL (bsub x0 (w64 (8 * x1)) (w64 ((w64 (8 * x1)) + 8)))).length : Int)), (17, iv x28), (18, .bool x34)] ρ ∧ St E [rR (tInt .u8) .i (sa b24) p25 ((strL (bsub x0 (w64 (8 * x1)) (w64 ((w64 (8 * x1)) + 8)))).length) (strL (bsub x0 (w64 (8 * x1)) (w64 ((w64 (8 * x1)) + 8))))] I h) ?_ ?_
  ·refine st 1 [] (k_ite H (fun c33 H => ?_) (fun c33 H => ?_))
   ·exact st 1 [] (k_end ⟨true, I, H, ft, hs.pk (.c d0 .n)⟩)
   exact st 1 [] (k_end ⟨false, I, H, ft, hs.pk (.c d0 .n)⟩)
  clear H
  rintro ρ h ⟨x34, I, H, hf, hs⟩
  refine k_fits _ hf ?_ rfl
  subst e39
  try dsimp only at H
  cases x34
  ·rw [cond_false] at H
   refine st 2 [false] (k_out rfl ?_)
   obtain rfl := si H
   exact xE ⟨x27, I, rfl, ft, hs.pk (.c d0 .n)⟩
  rw [cond_true] at H
  obtain ⟨c36, H⟩ := guard_pos H
  obtain ⟨c37, H⟩ := guard_pos H
  refine st 7 [true] (k_val (elemPtr (sa b24) (x28.toNat * 1)) (pI (e := 5) (ik := .i64) (hs.sR d0) c36 c37) ?_)
  refine k_op (lC ((hs.sR d0).cell1 c36 c37) ?_)
  refine st 7 [] (k_ite H (fun c38 H => ?_) (fun c38 H => ?_))
  ·exact st 22 [true] (k_endL ⟨k, Nat.lt_succ_self _, (bOr .u32 (shl .u32 x27 4) (IntKind.u32.wrap ((IntKind.u8.wrap ((at_ (strL (bsub x0 (w64 (8 * x1)) (w64 ((w64 (8 * x1)) + 8)))) x28) - 87))))), (w64 (x28 + 1)), I, H, ft, hs.pk (.c d0 .n)⟩)
  exact st 22 [false] (k_endL ⟨k, Nat.lt_succ_self _, (bOr .u32 (shl .u32 x27 4) (IntKind.u32.wrap ((IntKind.u8.wrap ((at_ (strL (bsub x0 (w64 (8 * x1)) (w64 ((w64 (8 * x1)) + 8)))) x28) - 48))))), (w64 (x28 + 1)), I, H, ft, hs.pk (.c d0 .n)⟩)
def hash_New.l1.m (K : Nat) : Nat → Int → Int → Int → Int → Int → Int → Int → Int → Int → Option (Int × Int × Int × Int × Int × Int × Int × Int)
  | 0, _, _, _, _, _, _, _, _, _ => none
  | k + 1, x22, x23, x24, x25, x26, x27, x28, x29, x30 => (letJ (α := Bool → Option (Int × Int × Int × Int × Int × Int × Int × Int)) (fun (x43 : Bool) => (bif x43 then ((hash_digits.m K (⟨#[54, 97, 48, 57, 101, 54, 54, 55, 98, 98, 54, 55, 97, 101, 56, 53, 51, 99, 54, 101, 102, 51, 55, 50, 97, 53, 52, 102, 102, 53, 51, 97, 53, 49, 48, 101, 53, 50, 55, 102, 57, 98, 48, 53, 54, 56, 56, 99, 49, 102, 56, 51, 100, 57, 97, 98, 53, 98, 101, 48, 99, 100, 49, 57]⟩ : ByteArray) x22).bind fun t45 => (if 0 ≤ x22 then (if x22 < 8 then (hash_New.l1.m K k (w64 (x22 + 1)) (at_ ([x23, x24, x25, x26, x27, x28, x29, x30].set x22.toNat t45) 0) (at_ ([x23, x24, x25, x26, x27, x28, x29, x30].set x22.toNat t45) 1) (at_ ([x23, x24, x25, x26, x27, x28, x29, x30].set x22.toNat t45) 2) (at_ ([x23, x24, x25, x26, x27, x28, x29, x30].set x22.toNat t45) 3) (at_ ([x23, x24, x25, x26, x27, x28, x29, x30].set x22.toNat t45) 4) (at_ ([x23, x24, x25, x26, x27, x28, x29, x30].set x22.toNat t45) 5) (at_ ([x23, x24, x25, x26, x27, x28, x29, x30].set x22.toNat t45) 6) (at_ ([x23, x24, x25, x26, x27, x28, x29, x30].set x22.toNat t45) 7)) else none) else none)) else (some ((x23, x24, x25, x26, x27, x28, x29, x30))))) fun (j44 : Bool → Option (Int × Int × Int × Int × Int × Int × Int × Int)) => (if x22 < 8 then (j44 true) else (j44 false)))
def hash_New.m (K : Nat)  : Option hash_Sum :=
  ((hash_New.l1.m K K 0 0 0 0 0 0 0 0 0).bind fun (x32, x33, x34, x35, x36, x37, x38, x39) => (some (⟨[x32, x33, x34, x35, x36, x37, x38, x39], [], 0⟩ : hash_Sum)))
theorem hash_New.calls {B I : Gh} {h : Heap} {K : Nat} {r : hash_Sum} (H : hash_New.m K = some r)  :
    Fc Tryz.prog 300 #[] [] B I h (fun v L => ∃ b49 a51 p52 n53, v = pv b49 ∧ L = [rB b49 [.int .u32 (at_ r.h' 0), .int .u32 (at_ r.h' 1), .int .u32 (at_ r.h' 2), .int .u32 (at_ r.h' 3), .int .u32 (at_ r.h' 4), .int .u32 (at_ r.h' 5), .int .u32 (at_ r.h' 6), .int .u32 (at_ r.h' 7), .slice a51 n53 p52, .int .u64 r.n'] 400, rO (tInt .u8) .i a51 p52 n53 r.rest'] ∧ List.length r.h' = 8) := by
 refine fc_of fun E hs => ?_
 unfold hash_New.m at H
 refine fn_of (rs := [.tmp 0]) (N := 17) Tryz.func300 rfl rfl rfl rfl ?_
 refine st 7 [] (k_op (nB hs [.int .u32 0, .int .u32 0, .int .u32 0, .int .u32 0, .int .u32 0, .int .u32 0, .int .u32 0, .int .u32 0, .slice none 0 0, .int .u64 0] ?_))
 intro b21 h hs
 refine st 8 [] ?_
 obtain ⟨s31, m41, HR40⟩ := bind_some H
 refine k_loop 0 (fun k' ρ h => ∃ (x22 : Int) (x23 : Int) (x24 : Int) (x25 : Int) (x26 : Int) (x27 : Int) (x28 : Int) (x29 : Int) (x30 : Int), ∃ I, hash_New.l1.m K k' x22 x23 x24 x25 x26 x27 x28 x29 x30 = some s31 ∧ Fits [(1, pv b21), (5, iv x22)] ρ ∧ St E [rB b21 [.int .u32 x23, .int .u32 x24, .int .u32 x25, .int .u32 x26, .int .u32 x27, .int .u32 x28, .int .u32 x29, .int .u32 x30, .slice none 0 0, .int .u64 0] 400] I h) (fun ρ h => ∃ (x32 : Int) (x33 : Int) (x34 : Int) (x35 : Int) (x36 : Int) (x37 : Int) (x38 : Int) (x39 : Int), ∃ I, (x32, x33, x34, x35, x36, x37, x38, x39) = s31 ∧ Fits [(1, pv b21)] ρ ∧ St E [rB b21 [.int .u32 x32, .int .u32 x33, .int .u32 x34, .int .u32 x35, .int .u32 x36, .int .u32 x37, .int .u32 x38, .int .u32 x39, .slice none 0 0, .int .u64 0] 400] I h) K ⟨0, 0, 0, 0, 0, 0, 0, 0, 0, I, m41, ft, hs.pk (.c d0 .n)⟩ ?_ rfl ?_
 rotate_left
 ·rintro ρ h ⟨x32, x33, x34, x35, x36, x37, x38, x39, I, rfl, hf, hs⟩
  have H := HR40
  try dsimp only at H
  refine k_fits _ hf ?_ rfl
  obtain rfl := si H
  exact st 5 [] (k_retQ ⟨_, by kernel_rfl, I, _, ⟨b21, none, 0, 0, rfl, rfl, rfl⟩, hs.pk (.c d0 (.f imON .n))⟩)
 clear HR40 m41 H
 rintro k' ρ h ⟨x22, x23, x24, x25, x26, x27, x28, x29, x30, I, H, hf, hs⟩
 cases k' with
 | zero => cases H
 | succ k =>
  rw [hash_New.l1.m] at H
  refine k_fits _ hf ?_ rfl
  refine st 1 [] ?_
  obtain ⟨j44, e48, H⟩ := letJ_some H
  refine k_join (fun ρ h => ∃ (x43 : Bool), ∃ I, j44 x43 = some s31 ∧ Fits [(1, pv b21), (5, iv x22), (6, .bool x43)] ρ ∧ St E [rB b21 [.int .u32 x23, .int .u32 x24, .int .u32 x25, .int .u32 x26, .int .u32 x27, .int .u32 x28, .int .u32 x29, .int .u32 x30, .slice none 0 0, .int .u64 0] 400] I h) ?_ ?_
  ·refine st 1 [] (k_ite H (fun c42 H => ?_) (fun c42 H => ?_))
   ·exact st 1 [] (k_end ⟨true, I, H, ft, hs.pk (.c d0 .n)⟩)
   exact st 1 [] (k_end ⟨false, I, H, ft, hs.pk (.c d0 .n)⟩)
  clear H
  rintro ρ h ⟨x43, I, H, hf, hs⟩
  refine k_fits _ hf ?_ rfl
  subst e48
  try dsimp only at H
  cases x43
  ·rw [cond_false] at H
   refine st 2 [false] (k_out rfl ?_)
   obtain rfl := si H
   exact xE ⟨x23, x24, x25, x26, x27, x28, x29, x30, I, rfl, ft, hs.pk (.c d0 .n)⟩
  rw [cond_true] at H
  refine st 10 [true] ?_
  obtain ⟨hs0, bk0⟩ := hs.call tk0 .n
  have hs := hs0
  refine k_regD hs0 7 ?_
  refine aRun [0, 1, 2, 4, 5] 3 hs.keep ?_
  obtain ⟨hk, bk⟩ := hs.call tk0 .n
  refine aO1 3 rfl (o_call H (fun _ m => hash_digits.calls m hk) ?_)
  rintro t45 _ h H ⟨I, _, ⟨rfl, rfl⟩, hk⟩
  replace hs := bk hk ct0 rfl
  refine ⟨hs.keep, ?_⟩
  obtain ⟨c46, H⟩ := guard_pos H
  obtain ⟨c47, H⟩ := guard_pos H
  refine aP 6 (elemPtr (sa b21) (x22.toNat * 1)) rfl (pr_indexArrO (e := 397) (kk := .i64) (n := 8) (by kernel_rfl) (by kernel_rfl) (by kernel_rfl) (by kernel_rfl) c46 c47) hs.keep ?_
  replace hs := bk0 hs ct0 rfl
  refine aOL 7 rfl (sAO (ik := .u32) hs [] [x23, x24, x25, x26, x27, x28, x29, x30] [.slice none 0 0, .int .u64 0] t45 (by kernel_rfl) rfl c46 c47 ?_)
  intro h hs
  rw [arr_expand (Value.int .u32) (len_set rfl)] at hs
  replace hs : St _ (rB _ [.int .u32 (at_ ([x23, x24, x25, x26, x27, x28, x29, x30].set x22.toNat t45) 0), .int .u32 (at_ ([x23, x24, x25, x26, x27, x28, x29, x30].set x22.toNat t45) 1), .int .u32 (at_ ([x23, x24, x25, x26, x27, x28, x29, x30].set x22.toNat t45) 2), .int .u32 (at_ ([x23, x24, x25, x26, x27, x28, x29, x30].set x22.toNat t45) 3), .int .u32 (at_ ([x23, x24, x25, x26, x27, x28, x29, x30].set x22.toNat t45) 4), .int .u32 (at_ ([x23, x24, x25, x26, x27, x28, x29, x30].set x22.toNat t45) 5), .int .u32 (at_ ([x23, x24, x25, x26, x27, x28, x29, x30].set x22.toNat t45) 6), .int .u32 (at_ ([x23, x24, x25, x26, x27, x28, x29, x30].set x22.toNat t45) 7), .slice none 0 0, .int .u64 0] _ :: _) _ _ := hs
  refine aEnd ?_
  exact st 5 [] (k_endL ⟨k, Nat.lt_succ_self _, (w64 (x22 + 1)), (at_ ([x23, x24, x25, x26, x27, x28, x29, x30].set x22.toNat t45) 0), (at_ ([x23, x24, x25, x26, x27, x28, x29, x30].set x22.toNat t45) 1), (at_ ([x23, x24, x25, x26, x27, x28, x29, x30].set x22.toNat t45) 2), (at_ ([x23, x24, x25, x26, x27, x28, x29, x30].set x22.toNat t45) 3), (at_ ([x23, x24, x25, x26, x27, x28, x29, x30].set x22.toNat t45) 4), (at_ ([x23, x24, x25, x26, x27, x28, x29, x30].set x22.toNat t45) 5), (at_ ([x23, x24, x25, x26, x27, x28, x29, x30].set x22.toNat t45) 6), (at_ ([x23, x24, x25, x26, x27, x28, x29, x30].set x22.toNat t45) 7), I, H, ft, hs.pk (.c d0 .n)⟩)
def hash_turn.m (x0 : Int) (x1 : Int) : Option Int :=
  (if 0 ≤ x1 then (if 0 ≤ (w64 (32 - x1)) then (some (bOr .u32 (shr .u32 x0 x1) (shl .u32 x0 (w64 (32 - x1))))) else none) else none)
theorem hash_turn.calls {x0 : Int} {x1 : Int} {h : Heap} {r : Int} (H : hash_turn.m x0 x1 = some r)   :
    Ret Tryz.prog 313 #[.int .u32 x0, iv x1] h (fun v h' => .int .u32 r = v ∧ h' = h) := by
 unfold hash_turn.m at H
 refine fn_of (rs := [.tmp 4]) (N := 13) Tryz.func313 rfl rfl rfl rfl ?_
 refine st 5 [] (k_regP 9 ?_)
 obtain ⟨c21, H⟩ := guard_pos H
 refine aRun [0, 1] 7 Keep.refl ?_
 refine aP 2 (.int .u32 (shr .u32 x0 x1)) rfl (pr_shr (k := .u32) (yk := .i64) (a := x0) (b := x1) (by kernel_rfl) (by kernel_rfl) c21) Keep.refl ?_
 obtain ⟨c22, H⟩ := guard_pos H
 refine aRun [3, 4, 5] 3 Keep.refl ?_
 refine aP 6 (.int .u32 (shl .u32 x0 (w64 (32 - x1)))) rfl (pr_shl (k := .u32) (yk := .i64) (a := x0) (b := (w64 (32 - x1))) (by kernel_rfl) (by kernel_rfl) c22) Keep.refl ?_
 refine aRun [7, 8] 0 Keep.refl ?_
 refine aEnd ?_
 obtain rfl := si H
 exact k_retQ ⟨_, by kernel_rfl, rfl, rfl⟩
def hash_words.l1.m (K : Nat) (x0 : (List Int)) : Nat → Int → (List Int) → Option ((List Int))
  | 0, _, _ => none
  | k + 1, x27, x29 => (letJ (α := Bool → Option ((List Int))) (fun (x36 : Bool) => (bif x36 then (letJ (α := Bool → Option ((List Int))) (fun (x39 : Bool) => (bif x39 then (if 0 ≤ (w64 (4 * x27)) then (if (w64 (4 * x27)) < (x0.length : Int) then (if 0 ≤ (w64 ((w64 (4 * x27)) + 1)) then (if (w64 ((w64 (4 * x27)) + 1)) < (x0.length : Int) then (if 0 ≤ (w64 ((w64 (4 * x27)) + 2)) then (if (w64 ((w64 (4 * x27)) + 2)) < (x0.length : Int) then (if 0 ≤ (w64 ((w64 (4 * x27)) + 3)) then (if (w64 ((w64 (4 * x27)) + 3)) < (x0.length : Int) then (if 0 ≤ x27 then (if x27 < 64 then (hash_words.l1.m K x0 k (w64 (x27 + 1)) (x29.set x27.toNat (bOr .u32 (bOr .u32 (bOr .u32 (shl .u32 (IntKind.u32.wrap ((at_ x0 (w64 (4 * x27))))) 24) (shl .u32 (IntKind.u32.wrap ((at_ x0 (w64 ((w64 (4 * x27)) + 1))))) 16)) (shl .u32 (IntKind.u32.wrap ((at_ x0 (w64 ((w64 (4 * x27)) + 2))))) 8)) (IntKind.u32.wrap ((at_ x0 (w64 ((w64 (4 * x27)) + 3)))))))) else none) else none) else none) else none) else none) else none) else none) else none) else none) else none) else (if 0 ≤ (w64 (x27 - 15)) then (if (w64 (x27 - 15)) < 64 then (if 0 ≤ (w64 (x27 - 2)) then (if (w64 (x27 - 2)) < 64 then ((hash_turn.m (at_ x29 (w64 (x27 - 15))) 7).bind fun t55 => ((hash_turn.m (at_ x29 (w64 (x27 - 15))) 18).bind fun t56 => ((hash_turn.m (at_ x29 (w64 (x27 - 2))) 17).bind fun t57 => ((hash_turn.m (at_ x29 (w64 (x27 - 2))) 19).bind fun t58 => (if 0 ≤ (w64 (x27 - 16)) then (if (w64 (x27 - 16)) < 64 then (if 0 ≤ (w64 (x27 - 7)) then (if (w64 (x27 - 7)) < 64 then (if 0 ≤ x27 then (if x27 < 64 then (hash_words.l1.m K x0 k (w64 (x27 + 1)) (x29.set x27.toNat (IntKind.u32.wrap ((IntKind.u32.wrap ((IntKind.u32.wrap ((at_ x29 (w64 (x27 - 16))) + (bXor .u32 (bXor .u32 t55 t56) (shr .u32 (at_ x29 (w64 (x27 - 15))) 3)))) + (at_ x29 (w64 (x27 - 7))))) + (bXor .u32 (bXor .u32 t57 t58) (shr .u32 (at_ x29 (w64 (x27 - 2))) 10)))))) else none) else none) else none) else none) else none) else none))))) else none) else none) else none) else none))) fun (j40 : Bool → Option ((List Int))) => (if x27 < 16 then (j40 true) else (j40 false))) else (some (x29)))) fun (j37 : Bool → Option ((List Int))) => (if x27 < 64 then (j37 true) else (j37 false)))
def hash_words.m (K : Nat) (x0 : (List Int)) : Option (List Int) :=
  ((hash_words.l1.m K x0 K 0 (List.replicate 64 (0 : Int))).bind fun x32 => (some x32))
theorem hash_words.calls {B I : Gh} {h : Heap} {K : Nat} {x0 : (List Int)} {a21 : Option Addr} {p22 : Nat} {n23 : Nat} {r : (List Int)} (H : hash_words.m K x0 = some r)  :
    Fc Tryz.prog 312 #[.slice a21 n23 p22] [rR (tInt .u8) .b a21 p22 n23 x0] B I h (fun v L => v = .agg (List.map (Value.int .u32) r).toArray ∧ L = [] ∧ List.length r = 64) := by
 refine fc_of fun E hs => ?_
 unfold hash_words.m at H
 cases hs.nR d0
 refine fn_of2 (rs := [.cell 2 403]) (N := 90) Tryz.func312 rfl rfl rfl rfl ?_
 refine st 2 [] (k_op (nA hs (List.map (Value.int .u32) (List.replicate 64 (0 : Int))) (.agg (List.map (Value.int .u32) (List.replicate 64 (0 : Int))).toArray) ?_))
 intro b25 h hs
 refine st 3 [] (k_op (nA hs (List.map (Value.int .u32) (List.replicate 64 (0 : Int))) (.agg (List.map (Value.int .u32) (List.replicate 64 (0 : Int))).toArray) ?_))
 intro b26 h hs
 refine st 7 [] ?_
 obtain ⟨s30, m34, HR33⟩ := bind_some H
 refine k_loopT hs tl1 0 (fun T k' ρ h => ∃ (x27 : Int) (x29 : List Int), ∃ I, hash_words.l1.m K x0 k' x27 x29 = some s30 ∧ Fits [(0, .slice a21 x0.length p22), (2, pv b25), (3, pv b26), (9, iv x27)] ρ ∧ List.length x29 = 64 ∧ St E (rB b26 (List.map (Value.int .u32) x29) 403 :: T) I h) (fun T ρ h => ∃ (x32 : List Int), ∃ I, x32 = s30 ∧ Fits [(2, pv b25), (3, pv b26)] ρ ∧ List.length x32 = 64 ∧ St E (rB b26 (List.map (Value.int .u32) x32) 403 :: T) I h) K ⟨0, (List.replicate 64 (0 : Int)), I, m34, ft, (List.length_replicate (n := 64) (a := (0 : Int))), hs.pk (.c d0 pk0)⟩ ?_ rfl ?_
 rotate_left
 ·rintro ρ h ⟨x32, I, rfl, hf, hl31, hs⟩
  have H := HR33
  try dsimp only at H
  refine k_fits _ hf ?_ rfl
  refine st 2 [] (k_op (lG ((hs.bl d0).arrSeg hl31) ?_))
  refine k_op (sAN (l2 := x32) (hs.f d1) (List.length_replicate (n := 64) (a := (0 : Int))) hl31 ?_)
  intro h hs
  obtain rfl := si H
  exact st 1 [] (k_retQ ⟨[.agg (List.map (Value.int .u32) x32).toArray], (.cons (.agg (by kernel_rfl) (by kernel_rfl) (by kernel_rfl) ((hs.bl d0).arrSeg hl31)) .nil), I, _, ⟨rfl, rfl, hl31⟩, hs.pk .n⟩)
 clear HR33 m34 H
 rintro k' ρ h ⟨x27, x29, I, H, hf, hl28, hs⟩
 cases k' with
 | zero => cases H
 | succ k =>
  rw [hash_words.l1.m] at H
  refine k_fits _ hf ?_ rfl
  refine st 1 [] ?_
  obtain ⟨j37, e66, H⟩ := letJ_some H
  refine k_joinT (fun T ρ h => ∃ (x36 : Bool), ∃ I, j37 x36 = some s30 ∧ Fits [(0, .slice a21 x0.length p22), (2, pv b25), (3, pv b26), (9, iv x27), (10, .bool x36)] ρ ∧ St E T I h) hs tl0 ?_ ?_
  ·refine st 1 [] (k_ite H (fun c35 H => ?_) (fun c35 H => ?_))
   ·exact st 1 [] (k_end ⟨true, I, H, ft, hs⟩)
   exact st 1 [] (k_end ⟨false, I, H, ft, hs⟩)
  clear H
  rintro ρ h ⟨x36, I, H, hf, hs⟩
  refine k_fits _ hf ?_ rfl
  subst e66
  try dsimp only at H
  cases x36
  ·rw [cond_false] at H
   refine st 2 [false] (k_out rfl ?_)
   obtain rfl := si H
   exact xE ⟨x29, I, rfl, ft, hl28, hs.pk (.c d0 pk0)⟩
  rw [cond_true] at H
  refine st 12 [true] ?_
  obtain ⟨j40, e65, H⟩ := letJ_some H
  refine k_joinT (fun T ρ h => ∃ (x39 : Bool), ∃ I, j40 x39 = some s30 ∧ Fits [(0, .slice a21 x0.length p22), (2, pv b25), (3, pv b26), (4, iv x27), (9, iv x27), (13, .bool x39)] ρ ∧ St E T I h) hs tl0 ?_ ?_
  ·refine st 2 [] (k_ite H (fun c38 H => ?_) (fun c38 H => ?_))
   ·exact st 1 [] (k_end ⟨true, I, H, ft, hs⟩)
   exact st 1 [] (k_end ⟨false, I, H, ft, hs⟩)
  clear H
  rintro ρ h ⟨x39, I, H, hf, hs⟩
  refine k_fits _ hf ?_ rfl
  subst e65
  try dsimp only at H
  cases x39
  rotate_left
  ·rw [cond_true] at H
   refine st 2 [true] ?_
   obtain ⟨hs0, bk0⟩ := hs.call tk0 (.c (qB d2) .n)
   have hs := hs0
   refine k_regD hs0 35 ?_
   obtain ⟨c41, H⟩ := guard_pos H
   obtain ⟨c42, H⟩ := guard_pos H
   refine aRun [0, 1, 2, 3] 32 hs.keep ?_
   refine aP 4 (elemPtr a21 ((w64 (4 * x27)).toNat * 1)) rfl (pI (e := 5) (ik := .i64) (hs.sR d0) c41 c42) hs.keep ?_
   refine aL 5 rfl hs.keep ((hs0.sR d0).cell1 c41 c42) (nmR hs0 d0 c41 c42) ?_
   obtain ⟨c43, H⟩ := guard_pos H
   obtain ⟨c44, H⟩ := guard_pos H
   refine aRun [6, 7, 8, 9, 10, 11] 24 hs.keep ?_
   refine aP 12 (elemPtr a21 ((w64 ((w64 (4 * x27)) + 1)).toNat * 1)) rfl (pI (e := 5) (ik := .i64) (hs.sR d0) c43 c44) hs.keep ?_
   refine aL 13 rfl hs.keep ((hs0.sR d0).cell1 c43 c44) (nmR hs0 d0 c43 c44) ?_
   obtain ⟨c45, H⟩ := guard_pos H
   obtain ⟨c46, H⟩ := guard_pos H
   refine aRun [14, 15, 16, 17, 18, 19, 20] 15 hs.keep ?_
   refine aP 21 (elemPtr a21 ((w64 ((w64 (4 * x27)) + 2)).toNat * 1)) rfl (pI (e := 5) (ik := .i64) (hs.sR d0) c45 c46) hs.keep ?_
   refine aL 22 rfl hs.keep ((hs0.sR d0).cell1 c45 c46) (nmR hs0 d0 c45 c46) ?_
   obtain ⟨c47, H⟩ := guard_pos H
   obtain ⟨c48, H⟩ := guard_pos H
   refine aRun [23, 24, 25, 26, 27, 28, 29] 6 hs.keep ?_
   refine aP 30 (elemPtr a21 ((w64 ((w64 (4 * x27)) + 3)).toNat * 1)) rfl (pI (e := 5) (ik := .i64) (hs.sR d0) c47 c48) hs.keep ?_
   refine aL 31 rfl hs.keep ((hs0.sR d0).cell1 c47 c48) (nmR hs0 d0 c47 c48) ?_
   obtain ⟨c49, H⟩ := guard_pos H
   obtain ⟨c50, H⟩ := guard_pos H
   refine aRun [32, 33] 2 hs.keep ?_
   refine aP 34 (elemPtr (sa b26) (x27.toNat * 1)) rfl (pr_indexArr (e := 397) (kk := .i64) (n := 64) (by kernel_rfl) (by kernel_rfl) (by kernel_rfl) (by kernel_rfl) c49 c50) hs.keep ?_
   replace hs := hs.pk .n
   replace hs := bk0 hs ct0 rfl
   refine aOL 35 rfl (sA hs (bOr .u32 (bOr .u32 (bOr .u32 (shl .u32 (IntKind.u32.wrap ((at_ x0 (w64 (4 * x27))))) 24) (shl .u32 (IntKind.u32.wrap ((at_ x0 (w64 ((w64 (4 * x27)) + 1))))) 16)) (shl .u32 (IntKind.u32.wrap ((at_ x0 (w64 ((w64 (4 * x27)) + 2))))) 8)) (IntKind.u32.wrap ((at_ x0 (w64 ((w64 (4 * x27)) + 3)))))) hl28 c49 c50 ?_)
   intro h hs
   refine aEnd ?_
   exact st 5 [] (k_endL ⟨k, Nat.lt_succ_self _, (w64 (x27 + 1)), (x29.set x27.toNat (bOr .u32 (bOr .u32 (bOr .u32 (shl .u32 (IntKind.u32.wrap ((at_ x0 (w64 (4 * x27))))) 24) (shl .u32 (IntKind.u32.wrap ((at_ x0 (w64 ((w64 (4 * x27)) + 1))))) 16)) (shl .u32 (IntKind.u32.wrap ((at_ x0 (w64 ((w64 (4 * x27)) + 2))))) 8)) (IntKind.u32.wrap ((at_ x0 (w64 ((w64 (4 * x27)) + 3))))))), I, H, ft, (len_set hl28), hs.pk (.c d0 pk0)⟩)
  rw [cond_false] at H
  refine st 3 [false] ?_
  obtain ⟨hs0, bk0⟩ := hs.call tk0 (.c (qL d0) .n)
  have hs := hs0
  refine k_regD hs0 10 ?_
  obtain ⟨c51, H⟩ := guard_pos H
  obtain ⟨c52, H⟩ := guard_pos H
  refine aRun [0, 1] 8 hs.keep ?_
  refine aP 2 (elemPtr (sa b26) ((w64 (x27 - 15)).toNat * 1)) rfl (pr_indexArr (e := 397) (kk := .i64) (n := 64) (by kernel_rfl) (by kernel_rfl) (by kernel_rfl) (by kernel_rfl) c51 c52) hs.keep ?_
  refine aL 3 rfl hs.keep ((OwnB.mk (I := No) (hs0.g d0).1 (fun x => x)).arrCell (i := (w64 (x27 - 15))) hl28 c51 c52) (nmL hs0 d0) ?_
  obtain ⟨c53, H⟩ := guard_pos H
  obtain ⟨c54, H⟩ := guard_pos H
  refine aRun [4, 5] 4 hs.keep ?_
  refine aP 6 (elemPtr (sa b26) ((w64 (x27 - 2)).toNat * 1)) rfl (pr_indexArr (e := 397) (kk := .i64) (n := 64) (by kernel_rfl) (by kernel_rfl) (by kernel_rfl) (by kernel_rfl) c53 c54) hs.keep ?_
  refine aL 7 rfl hs.keep ((OwnB.mk (I := No) (hs0.g d0).1 (fun x => x)).arrCell (i := (w64 (x27 - 2))) hl28 c53 c54) (nmL hs0 d0) ?_
  refine aRun [8, 9] 0 hs.keep ?_
  replace hs := hs.pk .n
  replace hs := bk0 hs ct0 rfl
  refine aEnd ?_
  refine st 3 [] (k_call H (fun _ m => hash_turn.calls m) ?_)
  rintro t55 _ _ H ⟨rfl, rfl⟩
  refine st 1 [] (k_call H (fun _ m => hash_turn.calls m) ?_)
  rintro t56 _ _ H ⟨rfl, rfl⟩
  refine st 9 [] (k_call H (fun _ m => hash_turn.calls m) ?_)
  rintro t57 _ _ H ⟨rfl, rfl⟩
  refine st 1 [] (k_call H (fun _ m => hash_turn.calls m) ?_)
  rintro t58 _ _ H ⟨rfl, rfl⟩
  refine st 6 [] ?_
  obtain ⟨hs0, bk0⟩ := hs.call tk0 (.c (qL d0) .n)
  have hs := hs0
  refine k_regD hs0 15 ?_
  obtain ⟨c59, H⟩ := guard_pos H
  obtain ⟨c60, H⟩ := guard_pos H
  refine aRun [0, 1, 2] 13 hs.keep ?_
  refine aP 3 (elemPtr (sa b26) ((w64 (x27 - 16)).toNat * 1)) rfl (pr_indexArr (e := 397) (kk := .i64) (n := 64) (by kernel_rfl) (by kernel_rfl) (by kernel_rfl) (by kernel_rfl) c59 c60) hs.keep ?_
  refine aL 4 rfl hs.keep ((OwnB.mk (I := No) (hs0.g d0).1 (fun x => x)).arrCell (i := (w64 (x27 - 16))) hl28 c59 c60) (nmL hs0 d0) ?_
  obtain ⟨c61, H⟩ := guard_pos H
  obtain ⟨c62, H⟩ := guard_pos H
  refine aRun [5, 6, 7, 8] 7 hs.keep ?_
  refine aP 9 (elemPtr (sa b26) ((w64 (x27 - 7)).toNat * 1)) rfl (pr_indexArr (e := 397) (kk := .i64) (n := 64) (by kernel_rfl) (by kernel_rfl) (by kernel_rfl) (by kernel_rfl) c61 c62) hs.keep ?_
  refine aL 10 rfl hs.keep ((OwnB.mk (I := No) (hs0.g d0).1 (fun x => x)).arrCell (i := (w64 (x27 - 7))) hl28 c61 c62) (nmL hs0 d0) ?_
  obtain ⟨c63, H⟩ := guard_pos H
  obtain ⟨c64, H⟩ := guard_pos H
  refine aRun [11, 12, 13] 2 hs.keep ?_
  refine aP 14 (elemPtr (sa b26) (x27.toNat * 1)) rfl (pr_indexArr (e := 397) (kk := .i64) (n := 64) (by kernel_rfl) (by kernel_rfl) (by kernel_rfl) (by kernel_rfl) c63 c64) hs.keep ?_
  replace hs := hs.pk .n
  replace hs := bk0 hs ct0 rfl
  refine aOL 15 rfl (sA hs (IntKind.u32.wrap ((IntKind.u32.wrap ((IntKind.u32.wrap ((at_ x29 (w64 (x27 - 16))) + (bXor .u32 (bXor .u32 t55 t56) (shr .u32 (at_ x29 (w64 (x27 - 15))) 3)))) + (at_ x29 (w64 (x27 - 7))))) + (bXor .u32 (bXor .u32 t57 t58) (shr .u32 (at_ x29 (w64 (x27 - 2))) 10)))) hl28 c63 c64 ?_)
  intro h hs
  refine aEnd ?_
  exact st 5 [] (k_endL ⟨k, Nat.lt_succ_self _, (w64 (x27 + 1)), (x29.set x27.toNat (IntKind.u32.wrap ((IntKind.u32.wrap ((IntKind.u32.wrap ((at_ x29 (w64 (x27 - 16))) + (bXor .u32 (bXor .u32 t55 t56) (shr .u32 (at_ x29 (w64 (x27 - 15))) 3)))) + (at_ x29 (w64 (x27 - 7))))) + (bXor .u32 (bXor .u32 t57 t58) (shr .u32 (at_ x29 (w64 (x27 - 2))) 10))))), I, H, ft, (len_set hl28), hs.pk (.c d0 pk0)⟩)
end Go.Proofs.YtjkbhpokboolpaaGreatDoor.Sx
