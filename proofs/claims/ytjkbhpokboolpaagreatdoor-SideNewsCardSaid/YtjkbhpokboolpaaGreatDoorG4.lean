import Derived.Test.YtjkbhpokboolpaaGreatDoorProg
import Derived.Test.YtjkbhpokboolpaaGreatDoorV4
import Derived.Test.YtjkbhpokboolpaaGreatDoorV5
import Derived.Test.YtjkbhpokboolpaaGreatDoorVF
import Derived.Test.YtjkbhpokboolpaaGreatDoorV6
import Derived.Test.YtjkbhpokboolpaaGreatDoorV7
import Derived.Test.YtjkbhpokboolpaaGreatDoorV9
import Derived.Test.YtjkbhpokboolpaaGreatDoorVD
import Derived.Test.YtjkbhpokboolpaaGreatDoorVC
import Derived.Test.YtjkbhpokboolpaaGreatDoorG0
import Derived.Test.YtjkbhpokboolpaaGreatDoorG1
import Derived.Test.YtjkbhpokboolpaaGreatDoorG2
import Derived.Test.YtjkbhpokboolpaaGreatDoorG3
namespace Go.Proofs.YtjkbhpokboolpaaGreatDoor.Sx
open Go
set_option maxRecDepth 100000
set_option maxHeartbeats 4000000
def side_Client_ask.m (K : Nat) (x0 : side_Client) (x1 : Int) : Option (GoErr × side_Client) :=
  ((read_Reply.m K x0.s' 246 x1).bind fun t43 => (if t43.2 = GoErr.nil then ((side_Client_send.m K x0 0 t43.1).bind fun t53 => bif t53.1 then (some (GoErr.nil, (⟨(⟨x0.side'.key', (⟨x0.side'.gate'.Key, t53.2.side'.gate'.Dir, t53.2.side'.gate'.Seen, t53.2.side'.gate'.Peer⟩ : roam_Gate), t53.2.side'.line', t53.2.side'.dir', t53.2.side'.seq'⟩ : side_side), (⟨t53.2.s'.Rows, t53.2.s'.Cols, x0.s'.Cells, t53.2.s'.Cursor, t53.2.s'.Locked, t53.2.s'.Insert⟩ : api_Screen), x0.todo', t53.2.sent', x0.events'⟩ : side_Client))) else (some ((GoErr.no 10), (⟨(⟨x0.side'.key', (⟨x0.side'.gate'.Key, t53.2.side'.gate'.Dir, t53.2.side'.gate'.Seen, t53.2.side'.gate'.Peer⟩ : roam_Gate), t53.2.side'.line', t53.2.side'.dir', t53.2.side'.seq'⟩ : side_side), (⟨t53.2.s'.Rows, t53.2.s'.Cols, x0.s'.Cells, t53.2.s'.Cursor, t53.2.s'.Locked, t53.2.s'.Insert⟩ : api_Screen), x0.todo', t53.2.sent', x0.events'⟩ : side_Client)))) else (some (t43.2, x0))))
theorem side_Client_ask.calls {B I : Gh} {h : Heap} {K : Nat} {x0 : side_Client} {x1 : Int} {b0 : Nat} {v21 : Value} {v22 : Value} {b23 : Nat} {a24 : Option Addr} {p25 : Nat} {n26 : Nat} {b28 : Nat} {a29 : Option Addr} {p30 : Nat} {n31 : Nat} {a33 : Option Addr} {p34 : Nat} {n35 : Nat} {v37 : Value} {a38 : Option Addr} {p39 : Nat} {n40 : Nat} {v42 : Value} {r : (GoErr × side_Client)} (H : side_Client_ask.m K x0 x1 = some r)  :
    Fc Tryz.prog 131 #[pv b0, .int .u8 x1] [rB b0 [v21, v22, iv x0.side'.gate'.Dir, iv x0.side'.gate'.Seen.Top, .int .u64 x0.side'.gate'.Seen.Bits, .string x0.side'.gate'.Peer.Addr, iv x0.side'.gate'.Peer.Seq, pv b23, iv x0.side'.dir', iv x0.side'.seq', iv x0.s'.Rows, iv x0.s'.Cols, .slice a33 n35 p34, iv x0.s'.Cursor, .bool x0.s'.Locked, .bool x0.s'.Insert, v37, .slice a38 n40 p39, v42] 78, rB b23 [.slice a24 n26 p25, iv x0.side'.line'.given', iv x0.side'.line'.await', .map (some b28), .slice a29 n31 p30, iv x0.side'.line'.wait', iv x0.side'.line'.left', .bool x0.side'.line'.owes'] 239, rO t_api_Pack .i a24 p25 n26 x0.side'.line'.queue', rM t_api_Pack b28 x0.side'.line'.kept', rO (tInt .u8) .i a29 p30 n31 x0.side'.line'.coming', rO (tSl (tInt .u8)) .i a38 p39 n40 x0.sent', rR t_api_Cell .i a33 p34 n35 x0.s'.Cells] B I h (fun v L => ∃ v67 a69 p70 n71 a73 p74 n75 a77 p78 n79 a81 p82 n83, v = v67 ∧ L = [rE .i v67 r.1, rB b0 [v21, v22, iv r.2.side'.gate'.Dir, iv r.2.side'.gate'.Seen.Top, .int .u64 r.2.side'.gate'.Seen.Bits, .string r.2.side'.gate'.Peer.Addr, iv r.2.side'.gate'.Peer.Seq, pv b23, iv r.2.side'.dir', iv r.2.side'.seq', iv r.2.s'.Rows, iv r.2.s'.Cols, .slice a77 n79 p78, iv r.2.s'.Cursor, .bool r.2.s'.Locked, .bool r.2.s'.Insert, v37, .slice a81 n83 p82, v42] 78, rB b23 [.slice a69 n71 p70, iv r.2.side'.line'.given', iv r.2.side'.line'.await', .map (some b28), .slice a73 n75 p74, iv r.2.side'.line'.wait', iv r.2.side'.line'.left', .bool r.2.side'.line'.owes'] 239, rO t_api_Pack .i a69 p70 n71 r.2.side'.line'.queue', rM t_api_Pack b28 r.2.side'.line'.kept', rO (tInt .u8) .i a73 p74 n75 r.2.side'.line'.coming', rR t_api_Cell .i a77 p78 n79 r.2.s'.Cells, rO (tSl (tInt .u8)) .i a81 p82 n83 r.2.sent']) := by
 refine fc_of fun E hs => ?_
 unfold side_Client_ask.m at H
 cases hs.nO d2
 cases hs.nO d4
 cases hs.nO d5
 cases hs.nR d6
 refine fn_of (rs := [.tmp 4]) (N := 24) Tryz.func131 rfl rfl rfl rfl ?_
 refine st 9 [] (k_op (lN (hs.bl d0) 10 6 ?_))
 obtain ⟨hk, bk⟩ := hs.call tk0 (.c (qI d6) .n)
 refine st 1 [] (k_call H (fun _ m => read_Reply.calls m hk) ?_)
 rintro t43 _ h H ⟨I, _, ⟨a44, p45, n46, v48, rfl, rfl⟩, hk⟩
 replace hs := bk hk ct2 rfl
 cases hs.nO d0
 rcases (hs.er d1).cases with ⟨c50, rfl⟩ | ⟨c50, t51, u52, rfl⟩
 rotate_left
 ·rw [if_neg c50] at H
  obtain rfl := si H
  exact st 18 [true] (k_retQ ⟨_, by kernel_rfl, I, _, ⟨((.iface t51 u52)), a24, p25, x0.side'.line'.queue'.length, a29, p30, x0.side'.line'.coming'.length, a33, p34, x0.s'.Cells.length, a38, p39, x0.sent'.length, rfl, rfl⟩, hs.pk (.c d1 (.c d1 (.c d1 (.c d1 (.c d1 (.c d1 (.c d2 (.c d1 .n))))))))⟩)
 rw [if_pos c50] at H
 obtain ⟨hk, bk⟩ := ((((((hs.f d7).f d7).f d7).f d7).f d7).f d7).call tk6 (.c (qO d0) .n)
 refine st 19 [false] (k_call H (fun _ m => side_Client_send.calls m hk) ?_)
 rintro t53 _ h H ⟨I, _, ⟨a54, p55, n56, a58, p59, n60, a62, p63, n64, rfl, rfl⟩, hk⟩
 replace hs := bk hk ct6 rfl
 cases hs.nO d2
 cases hs.nO d4
 cases hs.nO d5
 refine k_spl H (fun c66 H => ?_) (fun c66 H => ?_)
 ·obtain rfl := si H
  exact st 8 [false] (k_retQ ⟨_, by kernel_rfl, I, _, ⟨(.nilIface), a54, p55, t53.2.side'.line'.queue'.length, a58, p59, t53.2.side'.line'.coming'.length, a33, p34, x0.s'.Cells.length, a62, p63, t53.2.sent'.length, rfl, rfl⟩, hs.pk (.f imEN (.c d0 (.c d0 (.c d0 (.c d0 (.c d0 (.c d3 (.c d0 .n))))))))⟩)
 obtain rfl := si H
 exact st 8 [true] (k_retQ ⟨_, by kernel_rfl, I, _, ⟨(.iface 137 (iv 10)), a54, p55, t53.2.side'.line'.queue'.length, a58, p59, t53.2.side'.line'.coming'.length, a33, p34, x0.s'.Cells.length, a62, p63, t53.2.sent'.length, rfl, rfl⟩, hs.pk (.f imEC (.c d0 (.c d0 (.c d0 (.c d0 (.c d0 (.c d3 (.c d0 .n))))))))⟩)
def side_Client_press.m (K : Nat) (x0 : side_Client) (x1 : api_Key) : Option (Bool × GoErr × side_Client) :=
  (letJ (α := Int → Int → (List api_Cell) → Int → Bool → Bool → Bool → GoErr → Option (Bool × GoErr × side_Client)) (fun (x64 : Int) (x65 : Int) (x66 : List api_Cell) (x71 : Int) (x72 : Bool) (x73 : Bool) (x74 : Bool) (x75 : GoErr) => (bif x74 then ((side_Client_ask.m K x0 x1.Char).bind fun t80 => (if t80.1 = GoErr.nil then (some (x74, x75, (⟨(⟨x0.side'.key', (⟨x0.side'.gate'.Key, t80.2.side'.gate'.Dir, t80.2.side'.gate'.Seen, t80.2.side'.gate'.Peer⟩ : roam_Gate), t80.2.side'.line', t80.2.side'.dir', t80.2.side'.seq'⟩ : side_side), (⟨x64, x65, x66, x71, x72, x73⟩ : api_Screen), x0.todo', t80.2.sent', x0.events'⟩ : side_Client))) else (some (false, t80.1, (⟨(⟨x0.side'.key', (⟨x0.side'.gate'.Key, t80.2.side'.gate'.Dir, t80.2.side'.gate'.Seen, t80.2.side'.gate'.Peer⟩ : roam_Gate), t80.2.side'.line', t80.2.side'.dir', t80.2.side'.seq'⟩ : side_side), t80.2.s', x0.todo', t80.2.sent', x0.events'⟩ : side_Client))))) else (some (x74, x75, (⟨x0.side', (⟨x64, x65, x66, x71, x72, x73⟩ : api_Screen), x0.todo', x0.sent', x0.events'⟩ : side_Client))))) fun (j78 : Int → Int → (List api_Cell) → Int → Bool → Bool → Bool → GoErr → Option (Bool × GoErr × side_Client)) => ((keys_Do.m K x0.s' x1).bind fun t44 => (bif t44.2.1 then (j78 t44.1.Rows t44.1.Cols t44.1.Cells t44.1.Cursor t44.1.Locked t44.1.Insert true t44.2.2) else (j78 t44.1.Rows t44.1.Cols t44.1.Cells t44.1.Cursor t44.1.Locked t44.1.Insert false t44.2.2))))
theorem side_Client_press.calls {B I : Gh} {h : Heap} {K : Nat} {x0 : side_Client} {x1 : api_Key} {b0 : Nat} {v21 : Value} {v22 : Value} {b23 : Nat} {a24 : Option Addr} {p25 : Nat} {n26 : Nat} {b28 : Nat} {a29 : Option Addr} {p30 : Nat} {n31 : Nat} {a33 : Option Addr} {p34 : Nat} {n35 : Nat} {v37 : Value} {a38 : Option Addr} {p39 : Nat} {n40 : Nat} {v42 : Value} {r : (Bool × GoErr × side_Client)} (H : side_Client_press.m K x0 x1 = some r)  :
    Fc Tryz.prog 85 #[pv b0, .agg #[iv x1.Kind, .int .u8 x1.Char]] [rB b0 [v21, v22, iv x0.side'.gate'.Dir, iv x0.side'.gate'.Seen.Top, .int .u64 x0.side'.gate'.Seen.Bits, .string x0.side'.gate'.Peer.Addr, iv x0.side'.gate'.Peer.Seq, pv b23, iv x0.side'.dir', iv x0.side'.seq', iv x0.s'.Rows, iv x0.s'.Cols, .slice a33 n35 p34, iv x0.s'.Cursor, .bool x0.s'.Locked, .bool x0.s'.Insert, v37, .slice a38 n40 p39, v42] 78, rB b23 [.slice a24 n26 p25, iv x0.side'.line'.given', iv x0.side'.line'.await', .map (some b28), .slice a29 n31 p30, iv x0.side'.line'.wait', iv x0.side'.line'.left', .bool x0.side'.line'.owes'] 239, rO t_api_Pack .i a24 p25 n26 x0.side'.line'.queue', rM t_api_Pack b28 x0.side'.line'.kept', rO (tInt .u8) .i a29 p30 n31 x0.side'.line'.coming', rO (tSl (tInt .u8)) .i a38 p39 n40 x0.sent', rR t_api_Cell .i a33 p34 n35 x0.s'.Cells] B I h (fun v L => ∃ v103 a105 p106 n107 a109 p110 n111 a113 p114 n115 a117 p118 n119, v = .tuple #[.bool r.1, v103] ∧ L = [rE .i v103 r.2.1, rB b0 [v21, v22, iv r.2.2.side'.gate'.Dir, iv r.2.2.side'.gate'.Seen.Top, .int .u64 r.2.2.side'.gate'.Seen.Bits, .string r.2.2.side'.gate'.Peer.Addr, iv r.2.2.side'.gate'.Peer.Seq, pv b23, iv r.2.2.side'.dir', iv r.2.2.side'.seq', iv r.2.2.s'.Rows, iv r.2.2.s'.Cols, .slice a113 n115 p114, iv r.2.2.s'.Cursor, .bool r.2.2.s'.Locked, .bool r.2.2.s'.Insert, v37, .slice a117 n119 p118, v42] 78, rB b23 [.slice a105 n107 p106, iv r.2.2.side'.line'.given', iv r.2.2.side'.line'.await', .map (some b28), .slice a109 n111 p110, iv r.2.2.side'.line'.wait', iv r.2.2.side'.line'.left', .bool r.2.2.side'.line'.owes'] 239, rO t_api_Pack .i a105 p106 n107 r.2.2.side'.line'.queue', rM t_api_Pack b28 r.2.2.side'.line'.kept', rO (tInt .u8) .i a109 p110 n111 r.2.2.side'.line'.coming', rR t_api_Cell .i a113 p114 n115 r.2.2.s'.Cells, rO (tSl (tInt .u8)) .i a117 p118 n119 r.2.2.sent']) := by
 refine fc_of fun E hs => ?_
 unfold side_Client_press.m at H
 cases hs.nO d2
 cases hs.nO d4
 cases hs.nO d5
 cases hs.nR d6
 refine fn_of (rs := [.tmp 4, .tmp 5]) (N := 34) Tryz.func85 rfl rfl rfl rfl ?_
 refine st 2 [] (k_op (nB hs [iv x1.Kind, .int .u8 x1.Char] ?_))
 intro b43 h hs
 refine st 4 [] ?_
 obtain ⟨j78, e102, H⟩ := letJ_some H
 refine k_joinT (fun T ρ h => ∃ (x64 : Int) (x65 : Int) (x66 : List api_Cell) (x71 : Int) (x72 : Bool) (x73 : Bool) (x74 : Bool) (x75 : GoErr), ∃ b63 a67 p68 n69 v76 I, j78 x64 x65 x66 x71 x72 x73 x74 x75 = some r ∧ Fits [(0, pv b0), (3, pv b43), (6, pv b63), (7, .bool x74), (8, v76)] ρ ∧ St E (rR t_api_Cell .i a67 p68 n69 x66 :: rB b63 [iv x64, iv x65, .slice a67 n69 p68, iv x71, .bool x72, .bool x73] 56 :: rE .i v76 x75 :: T) I h) hs tl0 ?_ ?_
 rotate_left
 ·clear H
  rintro ρ h ⟨x64, x65, x66, x71, x72, x73, x74, x75, b63, a67, p68, n69, v76, I, H, hf, hs⟩
  refine k_fits _ hf ?_ rfl
  subst e102
  try dsimp only at H
  cases hs.nR d0
  refine st 3 [] (k_if H (fun c79 H => ?_) (fun c79 H => ?_))
  rotate_left
  ·refine st 6 [false] (k_op (lN (hs.bl d1) 0 6 ?_))
   refine st 2 [] (k_op (sN (hs.f d4) 10 [iv x64, iv x65, .slice a67 x66.length p68, iv x71, .bool x72, .bool x73] [v21, v22, iv x0.side'.gate'.Dir, iv x0.side'.gate'.Seen.Top, .int .u64 x0.side'.gate'.Seen.Bits, .string x0.side'.gate'.Peer.Addr, iv x0.side'.gate'.Peer.Seq, pv b23, iv x0.side'.dir', iv x0.side'.seq', iv x64, iv x65, .slice a67 x66.length p68, iv x71, .bool x72, .bool x73, v37, .slice a38 x0.sent'.length p39, v42] (ones_of rfl) ?_))
   intro h hs
   obtain rfl := si H
   exact st 8 [] (k_retQ ⟨_, by kernel_rfl, I, _, ⟨(v76), a24, p25, x0.side'.line'.queue'.length, a29, p30, x0.side'.line'.coming'.length, a67, p68, x66.length, a38, p39, x0.sent'.length, rfl, rfl⟩, hs.pk (.c d3 (.c d0 (.c d3 (.c d3 (.c d3 (.c d3 (.c d0 (.c d2 .n))))))))⟩)
  refine st 6 [true] (k_op (lB (hs.bl d3) 1 rfl ?_))
  obtain ⟨hk, bk⟩ := ((((((hs.f d9).f d9).f d9).f d9).f d9).f d9).call tk6 (.c (qK d4) .n)
  refine k_call H (fun _ m => side_Client_ask.calls m hk) ?_
  rintro t80 v81 h H ⟨I, _, ⟨_, a83, p84, n85, a87, p88, n89, a91, p92, n93, a95, p96, n97, rfl, rfl⟩, hk⟩
  replace hs := bk hk (.s (.s ct6)) rfl
  cases hs.nO d3
  cases hs.nO d5
  cases hs.nR d6
  cases hs.nO d7
  rcases (hs.er d0).cases with ⟨c99, rfl⟩ | ⟨c99, t100, u101, rfl⟩
  ·rw [if_pos c99] at H
   refine st 12 [false] (k_op (lN (hs.bl d9) 0 6 ?_))
   refine st 2 [] (k_op (sN (hs.f d1) 10 [iv x64, iv x65, .slice a67 x66.length p68, iv x71, .bool x72, .bool x73] [v21, v22, iv t80.2.side'.gate'.Dir, iv t80.2.side'.gate'.Seen.Top, .int .u64 t80.2.side'.gate'.Seen.Bits, .string t80.2.side'.gate'.Peer.Addr, iv t80.2.side'.gate'.Peer.Seq, pv b23, iv t80.2.side'.dir', iv t80.2.side'.seq', iv x64, iv x65, .slice a67 x66.length p68, iv x71, .bool x72, .bool x73, v37, .slice a95 t80.2.sent'.length p96, v42] (ones_of rfl) ?_))
   intro h hs
   obtain rfl := si H
   exact st 8 [] (k_retQ ⟨_, by kernel_rfl, I, _, ⟨(v76), a83, p84, t80.2.side'.line'.queue'.length, a87, p88, t80.2.side'.line'.coming'.length, a67, p68, x66.length, a95, p96, t80.2.sent'.length, rfl, rfl⟩, hs.pk (.c d10 (.c d0 (.c d1 (.c d1 (.c d1 (.c d1 (.c d3 (.c d2 .n))))))))⟩)
  rw [if_neg c99] at H
  obtain rfl := si H
  exact st 14 [true] (k_retQ ⟨_, by kernel_rfl, I, _, ⟨((.iface t100 u101)), a83, p84, t80.2.side'.line'.queue'.length, a87, p88, t80.2.side'.line'.coming'.length, a91, p92, t80.2.s'.Cells.length, a95, p96, t80.2.sent'.length, rfl, rfl⟩, hs.pk (.c d0 (.c d0 (.c d0 (.c d0 (.c d0 (.c d0 (.c d0 (.c d0 .n))))))))⟩)
 obtain ⟨hs0, bk0⟩ := hs.call tk0 (.c (qL d1) (.c (qL d0) (.c (qK d7) .n)))
 have hs := hs0
 refine k_regD hs0 13 ?_
 refine aRun [0, 1, 2] 11 hs.keep ?_
 refine aG 3 rfl hs.keep (lls hs0 d0 10 6 rfl) (nmL hs0 d0) ?_
 refine aG 4 rfl hs.keep (lls hs0 d1 0 2 rfl) (nmL hs0 d1) ?_
 refine aT2 5 10 ?_ ?_
 ·obtain ⟨hk, bk⟩ := hs.call tk0 (.c (qK d2) .n)
  refine aA rfl (o_call H (fun _ m => keys_Do.calls m hk) ?_)
  rintro t44 _ h H ⟨I, _, ⟨a45, p46, n47, v49, rfl, rfl⟩, hk⟩
  replace hs := bk hk ct2 rfl
  cases hs.nR d0
  refine ⟨hs.keep, ?_⟩
  refine aRun [6, 7] 6 hs.keep ?_
  rcases bool_or t44.2.1 with c51 | c51
  ·replace H := bif_f c51 H
   refine aP 8 (.bool false) rfl (pr_bool (by kernel_rfl) c51) hs.keep ?_
   refine aRun [9] 4 hs.keep ?_
   refine aO1 10 rfl (nA hs [iv 0, iv 0, .slice none 0 0, iv 0, .bool false, .bool false] (.agg #[iv 0, iv 0, .slice none 0 0, iv 0, .bool false, .bool false]) ?_)
   intro b53 h hs
   refine ⟨hs.keep, ?_⟩
   refine aO1 11 rfl (sN0 hs [iv t44.1.Rows, iv t44.1.Cols, .slice a45 t44.1.Cells.length p46, iv t44.1.Cursor, .bool t44.1.Locked, .bool t44.1.Insert] (ones_of rfl) ?_)
   intro h hs
   refine ⟨hs.keep, ?_⟩
   refine aRun [12] 1 hs.keep ?_
   replace hs := hs.pk (.c d0 (.c d0 (.c d0 .n)))
   replace hs := bk0 hs ct3 rfl
   refine aOL 13 rfl (owp_pure v49 (by kernel_rfl) ?_)
   refine aEnd ?_
   exact k_end ⟨t44.1.Rows, t44.1.Cols, t44.1.Cells, t44.1.Cursor, t44.1.Locked, t44.1.Insert, false, t44.2.2, b53, a45, p46, t44.1.Cells.length, v49, I, H, ft, hs.pk (.c d1 (.c d0 (.c d0 pk0)))⟩
  replace H := bif_t c51 H
  refine aP 8 (.bool true) rfl (pr_bool (by kernel_rfl) c51) hs.keep ?_
  refine aRun [9] 4 hs.keep ?_
  refine aO1 10 rfl (nA hs [iv 0, iv 0, .slice none 0 0, iv 0, .bool false, .bool false] (.agg #[iv 0, iv 0, .slice none 0 0, iv 0, .bool false, .bool false]) ?_)
  intro b52 h hs
  refine ⟨hs.keep, ?_⟩
  refine aO1 11 rfl (sN0 hs [iv t44.1.Rows, iv t44.1.Cols, .slice a45 t44.1.Cells.length p46, iv t44.1.Cursor, .bool t44.1.Locked, .bool t44.1.Insert] (ones_of rfl) ?_)
  intro h hs
  refine ⟨hs.keep, ?_⟩
  refine aRun [12] 1 hs.keep ?_
  replace hs := hs.pk (.c d0 (.c d0 (.c d0 .n)))
  replace hs := bk0 hs ct3 rfl
  refine aOL 13 rfl (owp_pure v49 (by kernel_rfl) ?_)
  refine aEnd ?_
  exact k_end ⟨t44.1.Rows, t44.1.Cols, t44.1.Cells, t44.1.Cursor, t44.1.Locked, t44.1.Insert, true, t44.2.2, b52, a45, p46, t44.1.Cells.length, v49, I, H, ft, hs.pk (.c d1 (.c d0 (.c d0 pk0)))⟩
 refine aA rfl (nA hs [iv 0, iv 0, .slice none 0 0, iv 0, .bool false, .bool false] (.agg #[iv 0, iv 0, .slice none 0 0, iv 0, .bool false, .bool false]) ?_)
 intro b54 h hs
 refine ⟨hs.keep, ?_⟩
 obtain ⟨hk, bk⟩ := hs.call tk0 (.c (qK d3) .n)
 refine aO1 5 rfl (o_call H (fun _ m => keys_Do.calls m hk) ?_)
 rintro t55 _ h H ⟨I, _, ⟨a56, p57, n58, v60, rfl, rfl⟩, hk⟩
 replace hs := bk hk ct2 rfl
 cases hs.nR d0
 refine ⟨hs.keep, ?_⟩
 refine aRun [6, 7] 5 hs.keep ?_
 rcases bool_or t55.2.1 with c62 | c62
 ·replace H := bif_f c62 H
  refine aP 8 (.bool false) rfl (pr_bool (by kernel_rfl) c62) hs.keep ?_
  refine aRun [9] 3 hs.keep ?_
  refine aO1 11 rfl (sN0 (hs.f d2) [iv t55.1.Rows, iv t55.1.Cols, .slice a56 t55.1.Cells.length p57, iv t55.1.Cursor, .bool t55.1.Locked, .bool t55.1.Insert] (ones_of rfl) ?_)
  intro h hs
  refine ⟨hs.keep, ?_⟩
  refine aRun [12] 1 hs.keep ?_
  replace hs := hs.pk (.c d0 (.c d0 (.c d0 .n)))
  replace hs := bk0 hs ct3 rfl
  refine aOL 13 rfl (owp_pure v60 (by kernel_rfl) ?_)
  refine aEnd ?_
  exact k_end ⟨t55.1.Rows, t55.1.Cols, t55.1.Cells, t55.1.Cursor, t55.1.Locked, t55.1.Insert, false, t55.2.2, b54, a56, p57, t55.1.Cells.length, v60, I, H, ft, hs.pk (.c d1 (.c d0 (.c d0 pk0)))⟩
 replace H := bif_t c62 H
 refine aP 8 (.bool true) rfl (pr_bool (by kernel_rfl) c62) hs.keep ?_
 refine aRun [9] 3 hs.keep ?_
 refine aO1 11 rfl (sN0 (hs.f d2) [iv t55.1.Rows, iv t55.1.Cols, .slice a56 t55.1.Cells.length p57, iv t55.1.Cursor, .bool t55.1.Locked, .bool t55.1.Insert] (ones_of rfl) ?_)
 intro h hs
 refine ⟨hs.keep, ?_⟩
 refine aRun [12] 1 hs.keep ?_
 replace hs := hs.pk (.c d0 (.c d0 (.c d0 .n)))
 replace hs := bk0 hs ct3 rfl
 refine aOL 13 rfl (owp_pure v60 (by kernel_rfl) ?_)
 refine aEnd ?_
 exact k_end ⟨t55.1.Rows, t55.1.Cols, t55.1.Cells, t55.1.Cursor, t55.1.Locked, t55.1.Insert, true, t55.2.2, b54, a56, p57, t55.1.Cells.length, v60, I, H, ft, hs.pk (.c d1 (.c d0 (.c d0 pk0)))⟩
def side_Client_Key.m (K : Nat) (x0 : side_Client) (x1 : api_Key) : Option (Bool × GoErr × side_Client) :=
  ((side_Client_press.m K x0 x1).bind fun t47 => ((api_Code.m t47.2.1).bind fun t66 => ((app x0.events' ([(⟨false, x1, t66, []⟩ : api_Event)])).bind fun l69 => (some (t47.1, t47.2.1, (⟨(⟨x0.side'.key', (⟨x0.side'.gate'.Key, t47.2.2.side'.gate'.Dir, t47.2.2.side'.gate'.Seen, t47.2.2.side'.gate'.Peer⟩ : roam_Gate), t47.2.2.side'.line', t47.2.2.side'.dir', t47.2.2.side'.seq'⟩ : side_side), t47.2.2.s', x0.todo', t47.2.2.sent', l69⟩ : side_Client))))))
theorem side_Client_Key.calls {B I : Gh} {h : Heap} {K : Nat} {x0 : side_Client} {x1 : api_Key} {b0 : Nat} {v21 : Value} {v22 : Value} {b23 : Nat} {a24 : Option Addr} {p25 : Nat} {n26 : Nat} {b28 : Nat} {a29 : Option Addr} {p30 : Nat} {n31 : Nat} {a33 : Option Addr} {p34 : Nat} {n35 : Nat} {v37 : Value} {a38 : Option Addr} {p39 : Nat} {n40 : Nat} {a42 : Option Addr} {p43 : Nat} {n44 : Nat} {r : (Bool × GoErr × side_Client)} (H : side_Client_Key.m K x0 x1 = some r)  :
    Fc Tryz.prog 33 #[pv b0, .agg #[iv x1.Kind, .int .u8 x1.Char]] [rB b0 [v21, v22, iv x0.side'.gate'.Dir, iv x0.side'.gate'.Seen.Top, .int .u64 x0.side'.gate'.Seen.Bits, .string x0.side'.gate'.Peer.Addr, iv x0.side'.gate'.Peer.Seq, pv b23, iv x0.side'.dir', iv x0.side'.seq', iv x0.s'.Rows, iv x0.s'.Cols, .slice a33 n35 p34, iv x0.s'.Cursor, .bool x0.s'.Locked, .bool x0.s'.Insert, v37, .slice a38 n40 p39, .slice a42 n44 p43] 78, rB b23 [.slice a24 n26 p25, iv x0.side'.line'.given', iv x0.side'.line'.await', .map (some b28), .slice a29 n31 p30, iv x0.side'.line'.wait', iv x0.side'.line'.left', .bool x0.side'.line'.owes'] 239, rO t_api_Pack .i a24 p25 n26 x0.side'.line'.queue', rM t_api_Pack b28 x0.side'.line'.kept', rO (tInt .u8) .i a29 p30 n31 x0.side'.line'.coming', rO (tSl (tInt .u8)) .i a38 p39 n40 x0.sent', rO t_api_Event .i a42 p43 n44 x0.events', rR t_api_Cell .i a33 p34 n35 x0.s'.Cells, rG] B I h (fun v L => ∃ v74 a76 p77 n78 a80 p81 n82 a84 p85 n86 a88 p89 n90 a92 p93 n94, v = .tuple #[.bool r.1, v74] ∧ L = [rE .i v74 r.2.1, rB b0 [v21, v22, iv r.2.2.side'.gate'.Dir, iv r.2.2.side'.gate'.Seen.Top, .int .u64 r.2.2.side'.gate'.Seen.Bits, .string r.2.2.side'.gate'.Peer.Addr, iv r.2.2.side'.gate'.Peer.Seq, pv b23, iv r.2.2.side'.dir', iv r.2.2.side'.seq', iv r.2.2.s'.Rows, iv r.2.2.s'.Cols, .slice a84 n86 p85, iv r.2.2.s'.Cursor, .bool r.2.2.s'.Locked, .bool r.2.2.s'.Insert, v37, .slice a88 n90 p89, .slice a92 n94 p93] 78, rB b23 [.slice a76 n78 p77, iv r.2.2.side'.line'.given', iv r.2.2.side'.line'.await', .map (some b28), .slice a80 n82 p81, iv r.2.2.side'.line'.wait', iv r.2.2.side'.line'.left', .bool r.2.2.side'.line'.owes'] 239, rO t_api_Pack .i a76 p77 n78 r.2.2.side'.line'.queue', rM t_api_Pack b28 r.2.2.side'.line'.kept', rO (tInt .u8) .i a80 p81 n82 r.2.2.side'.line'.coming', rR t_api_Cell .i a84 p85 n86 r.2.2.s'.Cells, rO (tSl (tInt .u8)) .i a88 p89 n90 r.2.2.sent', rO t_api_Event .i a92 p93 n94 r.2.2.events']) := by
 refine fc_of fun E hs => ?_
 unfold side_Client_Key.m at H
 cases hs.nO d2
 cases hs.nO d4
 cases hs.nO d5
 cases hs.nO d6
 cases hs.nR d7
 refine fn_of (rs := [.tmp 4, .tmp 5]) (N := 29) Tryz.func33 rfl rfl rfl rfl ?_
 refine st 2 [] (k_op (nB hs [iv x1.Kind, .int .u8 x1.Char] ?_))
 intro b46 h hs
 refine st 6 [] (k_op (lN (hs.bl d0) 0 2 ?_))
 obtain ⟨hk, bk⟩ := ((((((hs.f d6).f d6).f d6).f d6).f d6).f d6).call tk6 (.c (qK d2) .n)
 refine k_call H (fun _ m => side_Client_press.calls m hk) ?_
 rintro t47 _ h H ⟨I, _, ⟨v48, a50, p51, n52, a54, p55, n56, a58, p59, n60, a62, p63, n64, rfl, rfl⟩, hk⟩
 replace hs := bk hk (.s (.s ct6)) rfl
 cases hs.nO d3
 cases hs.nO d5
 cases hs.nR d6
 cases hs.nO d7
 refine st 7 [] ?_
 obtain ⟨hs0, bk0⟩ := (hs.f d9).call tk1 (.c (qL d1) (.c (qL d8) (.c (xK d0) (.c (gK d10) .n))))
 have hs := hs0
 refine k_regD hs0 11 ?_
 refine aRun [0, 1, 2, 3] 10 hs.keep ?_
 refine aL 4 rfl hs.keep (ll hs0 d1 (n := 18) rfl) (nmL hs0 d1) ?_
 refine aG 5 rfl hs.keep (lls hs0 d2 0 2 rfl) (nmL hs0 d2) ?_
 refine aRun [6] 7 hs.keep ?_
 obtain ⟨hk, bk⟩ := hs.call tk0 (.c (xI d3) (.c (gK d4) .n))
 refine aO1 7 rfl (o_call H (fun _ m => api_Code.calls m hk) ?_)
 rintro t66 _ h H ⟨I, _, ⟨rfl, rfl⟩, hk⟩
 replace hs := bk hk ct0 rfl
 refine ⟨hs.keep, ?_⟩
 refine aRun [8] 5 hs.keep ?_
 refine aO1 9 rfl (nS (e := 116) hs .i t_api_Event ([(⟨false, x1, t66, []⟩ : api_Event)] : List api_Event) [.bool false, iv x1.Kind, .int .u8 x1.Char, iv t66, .slice none 0 0] 5 (.agg #[.bool false, iv 0, .int .u8 0, iv 0, .slice none 0 0]) (Reps.cons (T := t_api_Event) (c := [.bool false, iv x1.Kind, .int .u8 x1.Char, iv t66, .slice none 0 0]) (x := (⟨false, x1, t66, []⟩ : api_Event)) ⟨none, 0, 0, rfl, ⟨rd_nil _ _ _, rfl⟩⟩ (.nil : Reps t_api_Event (Cl.G .i E.B I) h [] [])) ?_)
 intro b67 h hs
 refine ⟨hs.keep, ?_⟩
 replace hs := (hs.f d1)
 obtain ⟨l69, m70, H⟩ := bind_some H
 refine aO1 10 rfl (aO (e := 116) (bytes := 56) hs (hs.sO d1) m70 ?_)
 intro a71 p72 h hs
 refine ⟨hs.keep, ?_⟩
 replace hs := hs.pk (.c d0 (.c d0 .n))
 replace hs := bk0 hs ct2 rfl
 refine aOL 11 rfl (owp_pure (pv b0) (by kernel_rfl) ?_)
 refine aOL 12 rfl (owp_pure (.pointer (some ⟨b0, 18, none⟩)) (by kernel_rfl) ?_)
 refine aOL 13 rfl (sB (v := .slice a71 l69.length p72) (hs.f d3) cw18 ?_)
 intro h hs
 refine aEnd ?_
 obtain rfl := si H
 exact st 7 [] (k_retQ ⟨_, by kernel_rfl, I, _, ⟨(v48), a50, p51, t47.2.2.side'.line'.queue'.length, a54, p55, t47.2.2.side'.line'.coming'.length, a58, p59, t47.2.2.s'.Cells.length, a62, p63, t47.2.2.sent'.length, a71, p72, l69.length, rfl, rfl⟩, hs.pk (.c d3 (.c d0 (.c d2 (.c d2 (.c d2 (.c d2 (.c d2 (.c d2 (.c d0 .n)))))))))⟩)
def side_Client_answer.m (K : Nat) (x0 : side_Client) (x1 : Int) : Option (Bool × side_Client) :=
  (letJ (α := Int → Option (Bool × side_Client)) (fun (x44 : Int) => ((read_Reply.m K x0.s' x1 125).bind fun t46 => (if t46.2 = GoErr.nil then ((side_Client_send.m K x0 x44 t46.1).bind fun t56 => (some (t56.1, (⟨(⟨x0.side'.key', (⟨x0.side'.gate'.Key, t56.2.side'.gate'.Dir, t56.2.side'.gate'.Seen, t56.2.side'.gate'.Peer⟩ : roam_Gate), t56.2.side'.line', t56.2.side'.dir', t56.2.side'.seq'⟩ : side_side), (⟨t56.2.s'.Rows, t56.2.s'.Cols, x0.s'.Cells, t56.2.s'.Cursor, t56.2.s'.Locked, t56.2.s'.Insert⟩ : api_Screen), x0.todo', t56.2.sent', x0.events'⟩ : side_Client)))) else (some (true, x0))))) fun (j45 : Int → Option (Bool × side_Client)) => (if x1 = 242 then (j45 2) else (j45 1)))
theorem side_Client_answer.calls {B I : Gh} {h : Heap} {K : Nat} {x0 : side_Client} {x1 : Int} {b0 : Nat} {v21 : Value} {v22 : Value} {b23 : Nat} {a24 : Option Addr} {p25 : Nat} {n26 : Nat} {b28 : Nat} {a29 : Option Addr} {p30 : Nat} {n31 : Nat} {a33 : Option Addr} {p34 : Nat} {n35 : Nat} {v37 : Value} {a38 : Option Addr} {p39 : Nat} {n40 : Nat} {v42 : Value} {r : (Bool × side_Client)} (H : side_Client_answer.m K x0 x1 = some r)  :
    Fc Tryz.prog 193 #[pv b0, iv x1] [rB b0 [v21, v22, iv x0.side'.gate'.Dir, iv x0.side'.gate'.Seen.Top, .int .u64 x0.side'.gate'.Seen.Bits, .string x0.side'.gate'.Peer.Addr, iv x0.side'.gate'.Peer.Seq, pv b23, iv x0.side'.dir', iv x0.side'.seq', iv x0.s'.Rows, iv x0.s'.Cols, .slice a33 n35 p34, iv x0.s'.Cursor, .bool x0.s'.Locked, .bool x0.s'.Insert, v37, .slice a38 n40 p39, v42] 78, rB b23 [.slice a24 n26 p25, iv x0.side'.line'.given', iv x0.side'.line'.await', .map (some b28), .slice a29 n31 p30, iv x0.side'.line'.wait', iv x0.side'.line'.left', .bool x0.side'.line'.owes'] 239, rO t_api_Pack .i a24 p25 n26 x0.side'.line'.queue', rM t_api_Pack b28 x0.side'.line'.kept', rO (tInt .u8) .i a29 p30 n31 x0.side'.line'.coming', rO (tSl (tInt .u8)) .i a38 p39 n40 x0.sent', rR t_api_Cell .i a33 p34 n35 x0.s'.Cells] B I h (fun v L => ∃ a70 p71 n72 a74 p75 n76 a78 p79 n80 a82 p83 n84, v = .bool r.1 ∧ L = [rB b0 [v21, v22, iv r.2.side'.gate'.Dir, iv r.2.side'.gate'.Seen.Top, .int .u64 r.2.side'.gate'.Seen.Bits, .string r.2.side'.gate'.Peer.Addr, iv r.2.side'.gate'.Peer.Seq, pv b23, iv r.2.side'.dir', iv r.2.side'.seq', iv r.2.s'.Rows, iv r.2.s'.Cols, .slice a78 n80 p79, iv r.2.s'.Cursor, .bool r.2.s'.Locked, .bool r.2.s'.Insert, v37, .slice a82 n84 p83, v42] 78, rB b23 [.slice a70 n72 p71, iv r.2.side'.line'.given', iv r.2.side'.line'.await', .map (some b28), .slice a74 n76 p75, iv r.2.side'.line'.wait', iv r.2.side'.line'.left', .bool r.2.side'.line'.owes'] 239, rO t_api_Pack .i a70 p71 n72 r.2.side'.line'.queue', rM t_api_Pack b28 r.2.side'.line'.kept', rO (tInt .u8) .i a74 p75 n76 r.2.side'.line'.coming', rR t_api_Cell .i a78 p79 n80 r.2.s'.Cells, rO (tSl (tInt .u8)) .i a82 p83 n84 r.2.sent']) := by
 refine fc_of fun E hs => ?_
 unfold side_Client_answer.m at H
 cases hs.nO d2
 cases hs.nO d4
 cases hs.nO d5
 cases hs.nR d6
 refine fn_of (rs := [.tmp 4]) (N := 27) Tryz.func193 rfl rfl rfl rfl ?_
 refine st 9 [] ?_
 obtain ⟨j45, e69, H⟩ := letJ_some H
 refine k_joinT (fun T ρ h => ∃ (x44 : Int), ∃ I, j45 x44 = some r ∧ Fits [(0, pv b0), (1, iv x1), (5, .int .u8 x44)] ρ ∧ St E T I h) hs tl0 ?_ ?_
 ·refine st 3 [] (k_ite H (fun c43 H => ?_) (fun c43 H => ?_))
  ·exact st 5 [true] (k_end ⟨2, I, H, ft, hs⟩)
  exact st 3 [false] (k_end ⟨1, I, H, ft, hs⟩)
 clear H
 rintro ρ h ⟨x44, I, H, hf, hs⟩
 refine k_fits _ hf ?_ rfl
 subst e69
 try dsimp only at H
 refine st 5 [] (k_op (lN (hs.bl d0) 10 6 ?_))
 obtain ⟨hk, bk⟩ := hs.call tk0 (.c (qI d6) .n)
 refine st 1 [] (k_call H (fun _ m => read_Reply.calls m hk) ?_)
 rintro t46 _ h H ⟨I, _, ⟨a47, p48, n49, v51, rfl, rfl⟩, hk⟩
 replace hs := bk hk ct2 rfl
 cases hs.nO d0
 rcases (hs.er d1).cases with ⟨c53, rfl⟩ | ⟨c53, t54, u55, rfl⟩
 rotate_left
 ·rw [if_neg c53] at H
  obtain rfl := si H
  exact st 18 [] (k_retQ ⟨_, by kernel_rfl, I, _, ⟨a24, p25, x0.side'.line'.queue'.length, a29, p30, x0.side'.line'.coming'.length, a33, p34, x0.s'.Cells.length, a38, p39, x0.sent'.length, rfl, rfl⟩, hs.pk (.c d2 (.c d2 (.c d2 (.c d2 (.c d2 (.c d3 (.c d2 .n)))))))⟩)
 rw [if_pos c53] at H
 obtain ⟨hk, bk⟩ := ((((((hs.f d7).f d7).f d7).f d7).f d7).f d7).call tk6 (.c (qO d0) .n)
 refine st 14 [] (k_call H (fun _ m => side_Client_send.calls m hk) ?_)
 rintro t56 _ h H ⟨I, _, ⟨a57, p58, n59, a61, p62, n63, a65, p66, n67, rfl, rfl⟩, hk⟩
 replace hs := bk hk ct6 rfl
 cases hs.nO d2
 cases hs.nO d4
 cases hs.nO d5
 obtain rfl := si H
 exact st 3 [] (k_retQ ⟨_, by kernel_rfl, I, _, ⟨a57, p58, t56.2.side'.line'.queue'.length, a61, p62, t56.2.side'.line'.coming'.length, a33, p34, x0.s'.Cells.length, a65, p66, t56.2.sent'.length, rfl, rfl⟩, hs.pk (.c d0 (.c d0 (.c d0 (.c d0 (.c d0 (.c d3 (.c d0 .n)))))))⟩)
def paint_brush_put.m (x0 : paint_brush) (x1 : api_Cell) : Option paint_brush :=
  (if 0 ≤ x0.at' then (if x0.at' < (x0.s'.Cells.length : Int) then ((grid_On.m (⟨x0.s'.Rows, x0.s'.Cols, (x0.s'.Cells.set x0.at'.toNat x1), x0.s'.Cursor, x0.s'.Locked, x0.s'.Insert⟩ : api_Screen) x0.at' 1).bind fun t31 => (some (⟨(⟨x0.s'.Rows, x0.s'.Cols, (x0.s'.Cells.set x0.at'.toNat x1), x0.s'.Cursor, x0.s'.Locked, x0.s'.Insert⟩ : api_Screen), t31⟩ : paint_brush))) else none) else none)
theorem paint_brush_put.calls {B I : Gh} {h : Heap} {x0 : paint_brush} {x1 : api_Cell} {b0 : Nat} {a21 : Option Addr} {p22 : Nat} {n23 : Nat} {r : paint_brush} (H : paint_brush_put.m x0 x1 = some r)  :
    Fc Tryz.prog 296 #[pv b0, .agg #[.bool x1.Field, .bool x1.Attr.Protected, .bool x1.Attr.Numeric, iv x1.Attr.Show, .bool x1.Attr.Modified, .int .u8 x1.Char]] [rB b0 [iv x0.s'.Rows, iv x0.s'.Cols, .slice a21 n23 p22, iv x0.s'.Cursor, .bool x0.s'.Locked, .bool x0.s'.Insert, iv x0.at'] 376, rO t_api_Cell .i a21 p22 n23 x0.s'.Cells] B I h (fun v L => ∃ a32 p33 n34, v = .tuple #[] ∧ L = [rB b0 [iv r.s'.Rows, iv r.s'.Cols, .slice a32 n34 p33, iv r.s'.Cursor, .bool r.s'.Locked, .bool r.s'.Insert, iv r.at'] 376, rO t_api_Cell .i a32 p33 n34 r.s'.Cells]) := by
 refine fc_of fun E hs => ?_
 unfold paint_brush_put.m at H
 cases hs.nO d1
 refine fn_of (rs := []) (N := 27) Tryz.func296 rfl rfl rfl rfl ?_
 refine st 2 [] (k_op (nB hs [.bool x1.Field, .bool x1.Attr.Protected, .bool x1.Attr.Numeric, iv x1.Attr.Show, .bool x1.Attr.Modified, .int .u8 x1.Char] ?_))
 intro b25 h hs
 refine st 2 [] ?_
 obtain ⟨hs0, bk0⟩ := hs.call tk0 (.c (qL d1) (.c (qL d0) (.c (qO d2) .n)))
 have hs := hs0
 refine k_regD hs0 11 ?_
 refine aRun [0, 1, 2, 3] 8 hs.keep ?_
 refine aL 4 rfl hs.keep (ll hs0 d0 (n := 2) rfl) (nmL hs0 d0) ?_
 refine aRun [5, 6, 7] 4 hs.keep ?_
 refine aL 8 rfl hs.keep (ll hs0 d0 (n := 6) rfl) (nmL hs0 d0) ?_
 refine aG 9 rfl hs.keep (lls hs0 d1 0 6 rfl) (nmL hs0 d1) ?_
 obtain ⟨c26, H⟩ := guard_pos H
 obtain ⟨c27, H⟩ := guard_pos H
 refine aP 10 (elemPtr a21 (x0.at'.toNat * 6)) rfl (pI (e := 89) (ik := .i64) (hs.sR d2) c26 c27) hs.keep ?_
 replace hs := hs.pk .n
 replace hs := bk0 hs ct0 rfl
 obtain ⟨y29, g28, q30⟩ := (hs.sO d2).toSl.seg c26 c27
 obtain rfl := t_api_Cell.open_ q30
 replace hs := (hs.f d2)
 refine aOL 11 rfl (sE hs 0 [.bool x1.Field, .bool x1.Attr.Protected, .bool x1.Attr.Numeric, iv x1.Attr.Show, .bool x1.Attr.Modified, .int .u8 x1.Char] x1 c26 c27 g28 (ones_of rfl) rfl ?_)
 intro h hs
 refine aEnd ?_
 obtain ⟨hs0, bk0⟩ := hs.call tk0 (.c (qL d2) (.c (qO d0) .n))
 have hs := hs0
 refine k_regD hs0 12 ?_
 refine aRun [0, 1, 2, 3] 9 hs.keep ?_
 refine aG 4 rfl hs.keep (lls hs0 d0 0 6 rfl) (nmL hs0 d0) ?_
 refine aRun [5, 6, 7] 5 hs.keep ?_
 refine aL 8 rfl hs.keep (ll hs0 d0 (n := 6) rfl) (nmL hs0 d0) ?_
 obtain ⟨hk, bk⟩ := hs.call tk0 (.c (qB d1) .n)
 refine aO1 9 rfl (o_call H (fun _ m => grid_On.calls m hk) ?_)
 rintro t31 _ h H ⟨I, _, ⟨rfl, rfl⟩, hk⟩
 replace hs := bk hk ct0 rfl
 refine ⟨hs.keep, ?_⟩
 refine aRun [10, 11] 1 hs.keep ?_
 replace hs := hs.pk .n
 replace hs := bk0 hs ct0 rfl
 refine aOL 12 rfl (sB (v := iv t31) (hs.f d2) cw6 ?_)
 intro h hs
 refine aEnd ?_
 refine k_fin ?_
 obtain rfl := si H
 exact ⟨_, by kernel_rfl, I, _, ⟨a21, p22, x0.s'.Cells.length, rfl, rfl⟩, hs.pk (.c d0 (.c d0 .n))⟩
def paint_brush_tab.l1.m (K : Nat) (x0 : paint_brush) : Nat → Int → Option (paint_brush ⊕ (Unit))
  | 0, _ => none
  | k + 1, x25 => (if x25 < (x0.s'.Cells.length : Int) then (if 0 ≤ x25 then ((grid_On.m x0.s' x25 1).bind fun t35 => (bif (at_ x0.s'.Cells x25).Field then (bif ((at_ x0.s'.Cells x25).Attr).Protected then (paint_brush_tab.l1.m K x0 k (w64 (x25 + 1))) else (if 0 ≤ t35 then (if t35 < (x0.s'.Cells.length : Int) then (bif (at_ x0.s'.Cells t35).Field then (paint_brush_tab.l1.m K x0 k (w64 (x25 + 1))) else (some (Sum.inl (⟨x0.s', t35⟩ : paint_brush)))) else none) else none)) else (paint_brush_tab.l1.m K x0 k (w64 (x25 + 1))))) else none) else (some (Sum.inr ())))
def paint_brush_tab.m (K : Nat) (x0 : paint_brush) : Option paint_brush :=
  ((paint_brush_tab.l1.m K x0 K x0.at').bind fun s26 => match s26 with | .inl q => (some q) | .inr _ => (some (⟨x0.s', 0⟩ : paint_brush)))
theorem paint_brush_tab.calls {B I : Gh} {h : Heap} {K : Nat} {x0 : paint_brush} {b0 : Nat} {a21 : Option Addr} {p22 : Nat} {n23 : Nat} {r : paint_brush} (H : paint_brush_tab.m K x0 = some r)  :
    Fc Tryz.prog 297 #[pv b0] [rB b0 [iv x0.s'.Rows, iv x0.s'.Cols, .slice a21 n23 p22, iv x0.s'.Cursor, .bool x0.s'.Locked, .bool x0.s'.Insert, iv x0.at'] 376, rO t_api_Cell .i a21 p22 n23 x0.s'.Cells] B I h (fun v L => ∃ a44 p45 n46, v = .tuple #[] ∧ L = [rB b0 [iv r.s'.Rows, iv r.s'.Cols, .slice a44 n46 p45, iv r.s'.Cursor, .bool r.s'.Locked, .bool r.s'.Insert, iv r.at'] 376, rO t_api_Cell .i a44 p45 n46 r.s'.Cells]) := by
 refine fc_of fun E hs => ?_
 unfold paint_brush_tab.m at H
 cases hs.nO d1
 refine fn_of (rs := []) (N := 60) Tryz.func297 rfl rfl rfl rfl ?_
 refine st 6 [] (k_op (lB (hs.bl d0) 6 rfl ?_))
 refine st 3 [] ?_
 obtain ⟨s26, m28, HR27⟩ := bind_some H
 refine k_loopT hs tl0 0 (fun T k' ρ h => ∃ (x25 : Int), ∃ I, paint_brush_tab.l1.m K x0 k' x25 = some s26 ∧ Fits [(0, pv b0), (2, iv x25)] ρ ∧ St E T I h) (fun T ρ h => ∃ I, Sum.inr () = s26 ∧ Fits [(0, pv b0)] ρ ∧ St E T I h) K ⟨x0.at', I, m28, ft, hs⟩ ?_ rfl ?_
 rotate_left
 ·rintro ρ h ⟨I, rfl, hf, hs⟩
  have H := HR27
  try dsimp only at H
  refine k_fits _ hf ?_ rfl
  refine st 4 [] (k_op (sB (v := iv 0) hs cw6 ?_))
  intro h hs
  refine st 1 [] (k_fin ?_)
  obtain rfl := si H
  exact ⟨_, by kernel_rfl, I, _, ⟨a21, p22, x0.s'.Cells.length, rfl, rfl⟩, hs.pk (.c d0 (.c d0 .n))⟩
 clear m28 H
 rintro k' ρ h ⟨x25, I, H, hf, hs⟩
 cases k' with
 | zero => cases H
 | succ k =>
  rw [paint_brush_tab.l1.m] at H
  refine k_fits _ hf ?_ rfl
  refine st 8 [] (k_op (lB (hs.bl d0) 2 rfl ?_))
  refine st 1 [] (k_ite H (fun c29 H => ?_) (fun c29 H => ?_))
  rotate_left
  ·refine st 2 [false] (k_out rfl ?_)
   obtain rfl := si H
   exact xE ⟨I, rfl, ft, hs⟩
  refine st 11 [true] (k_op (lB (hs.bl d0) 2 rfl ?_))
  obtain ⟨c30, H⟩ := guard_pos H
  refine st 1 [] (k_val (elemPtr a21 (x25.toNat * 6)) (pI (e := 89) (ik := .i64) (hs.sO d1) c30 c29) ?_)
  obtain ⟨y32, g31, q33⟩ := (hs.sO d1).toSl.seg c30 c29
  obtain rfl := t_api_Cell.open_ q33
  refine k_op (lG g31 ?_)
  refine k_op (nA hs [.bool false, .bool false, .bool false, iv 0, .bool false, .int .u8 0] (.agg #[.bool false, .bool false, .bool false, iv 0, .bool false, .int .u8 0]) ?_)
  intro b34 h hs
  refine k_op (sN0 hs [.bool ((at_ x0.s'.Cells x25).Field), .bool (((at_ x0.s'.Cells x25).Attr).Protected), .bool (((at_ x0.s'.Cells x25).Attr).Numeric), iv (((at_ x0.s'.Cells x25).Attr).Show), .bool (((at_ x0.s'.Cells x25).Attr).Modified), .int .u8 ((at_ x0.s'.Cells x25).Char)] (ones_of rfl) ?_)
  intro h hs
  refine st 6 [] (k_op (lN (hs.bl d1) 0 6 ?_))
  obtain ⟨hk, bk⟩ := hs.call tk0 (.c (qO d2) .n)
  refine st 1 [] (k_call H (fun _ m => grid_On.calls m hk) ?_)
  rintro t35 _ h H ⟨I, _, ⟨rfl, rfl⟩, hk⟩
  replace hs := bk hk ct0 rfl
  refine st 5 [] (k_op (lB (hs.bl d0) 0 rfl ?_))
  refine k_spl H (fun c36 H => ?_) (fun c36 H => ?_)
  rotate_left
  ·exact st 27 [false] (k_endL ⟨k, Nat.lt_succ_self _, (w64 (x25 + 1)), I, H, ft, hs.pk pk1⟩)
  refine st 3 [] (k_op (lB (hs.bl d0) 1 rfl ?_))
  refine k_spl H (fun c37 H => ?_) (fun c37 H => ?_)
  ·exact st 23 [false] (k_endL ⟨k, Nat.lt_succ_self _, (w64 (x25 + 1)), I, H, ft, hs.pk pk1⟩)
  refine st 7 [] (k_op (lB (hs.bl d1) 2 rfl ?_))
  obtain ⟨c38, H⟩ := guard_pos H
  obtain ⟨c39, H⟩ := guard_pos H
  refine st 1 [] (k_val (elemPtr a21 (t35.toNat * 6)) (pI (e := 89) (ik := .i64) (hs.sO d2) c38 c39) ?_)
  refine k_val (elemPtr a21 (t35.toNat * 6 + 0)) (pF (off := 0) (hs.sO d2) c38 c39) ?_
  obtain ⟨y41, g40, q42⟩ := (hs.sO d2).toSl.seg c38 c39
  obtain rfl := t_api_Cell.open_ q42
  refine k_op (lC (seg_cell (f := 0) g40 rfl) ?_)
  refine k_spl H (fun c43 H => ?_) (fun c43 H => ?_)
  ·exact st 11 [false] (k_endL ⟨k, Nat.lt_succ_self _, (w64 (x25 + 1)), I, H, ft, hs.pk pk1⟩)
  refine st 10 [true] (k_op (sB (v := iv t35) (hs.f d1) cw6 ?_))
  intro h hs
  refine st 1 [] (k_retQ (krL ?_))
  obtain rfl := si H
  obtain rfl := Option.some.inj HR27
  exact ⟨_, by kernel_rfl, I, _, ⟨a21, p22, x0.s'.Cells.length, rfl, rfl⟩, hs.pk (.c d0 (.c d1 .n))⟩
def paint_brush_erase.l1.m (K : Nat) (t25 : api_Screen) (t31 : (List Int)) : Nat → Int → (List api_Cell) → Option ((List api_Cell))
  | 0, _, _ => none
  | k + 1, x36, x37 => (letJ (α := Bool → Option ((List api_Cell))) (fun (x51 : Bool) => (bif x51 then (if 0 ≤ x36 then (if x36 < (t31.length : Int) then ((field_Open.m K t25 (at_ t31 x36)).bind fun t55 => bif t55 then (if 0 ≤ (at_ t31 x36) then (if (at_ t31 x36) < (x37.length : Int) then (paint_brush_erase.l1.m K t25 t31 k (w64 (x36 + 1)) (x37.set (at_ t31 x36).toNat (⟨(at_ x37 (at_ t31 x36)).Field, ((at_ x37 (at_ t31 x36)).Attr), 0⟩ : api_Cell))) else none) else none) else (paint_brush_erase.l1.m K t25 t31 k (w64 (x36 + 1)) x37)) else none) else none) else (some (x37)))) fun (j52 : Bool → Option ((List api_Cell))) => (if x36 < (t31.length : Int) then (j52 true) else (j52 false)))
def paint_brush_erase.m (K : Nat) (x0 : paint_brush) (x1 : Int) : Option paint_brush :=
  ((grid_Copy.m x0.s').bind fun t25 => ((grid_Span.m K t25 x0.at' x1).bind fun t31 => ((paint_brush_erase.l1.m K t25 t31 K 0 x0.s'.Cells).bind fun x43 => (some (⟨(⟨x0.s'.Rows, x0.s'.Cols, x43, x0.s'.Cursor, x0.s'.Locked, x0.s'.Insert⟩ : api_Screen), x0.at'⟩ : paint_brush)))))
theorem paint_brush_erase.calls {B I : Gh} {h : Heap} {K : Nat} {x0 : paint_brush} {x1 : Int} {b0 : Nat} {a21 : Option Addr} {p22 : Nat} {n23 : Nat} {r : paint_brush} (H : paint_brush_erase.m K x0 x1 = some r)  :
    Fc Tryz.prog 299 #[pv b0, iv x1] [rB b0 [iv x0.s'.Rows, iv x0.s'.Cols, .slice a21 n23 p22, iv x0.s'.Cursor, .bool x0.s'.Locked, .bool x0.s'.Insert, iv x0.at'] 376, rO t_api_Cell .i a21 p22 n23 x0.s'.Cells] B I h (fun v L => ∃ a62 p63 n64, v = .tuple #[] ∧ L = [rB b0 [iv r.s'.Rows, iv r.s'.Cols, .slice a62 n64 p63, iv r.s'.Cursor, .bool r.s'.Locked, .bool r.s'.Insert, iv r.at'] 376, rO t_api_Cell .i a62 p63 n64 r.s'.Cells]) := by
 refine fc_of fun E hs => ?_
 unfold paint_brush_erase.m at H
 cases hs.nO d1
 refine fn_of (rs := []) (N := 36) Tryz.func299 rfl rfl rfl rfl ?_
 refine st 5 [] (k_op (lN (hs.bl d0) 0 6 ?_))
 obtain ⟨hk, bk⟩ := hs.call tk0 (.c (qO d1) .n)
 refine k_call H (fun _ m => grid_Copy.calls m hk) ?_
 rintro t25 _ h H ⟨I, _, ⟨a26, p27, n28, rfl, rfl⟩, hk⟩
 replace hs := bk hk ct1 rfl
 cases hs.nO d0
 refine k_op (nA hs [iv 0, iv 0, .slice none 0 0, iv 0, .bool false, .bool false] (.agg #[iv 0, iv 0, .slice none 0 0, iv 0, .bool false, .bool false]) ?_)
 intro b30 h hs
 refine k_op (sN0 hs [iv t25.Rows, iv t25.Cols, .slice a26 t25.Cells.length p27, iv t25.Cursor, .bool t25.Locked, .bool t25.Insert] (ones_of rfl) ?_)
 intro h hs
 refine st 2 [] ?_
 obtain ⟨hs0, bk0⟩ := hs.call tk0 (.c (qL d0) (.c (qL d2) (.c (qO d1) .n)))
 have hs := hs0
 refine k_regD hs0 9 ?_
 refine aG 0 rfl hs.keep (lls hs0 d0 0 6 rfl) (nmL hs0 d0) ?_
 refine aRun [1, 2, 3] 5 hs.keep ?_
 refine aL 4 rfl hs.keep (ll hs0 d1 (n := 6) rfl) (nmL hs0 d1) ?_
 refine aRun [5, 8] 2 hs.keep ?_
 obtain ⟨hk, bk⟩ := hs.call tk0 (.c (qB d2) .n)
 refine aO1 6 rfl (o_call H (fun _ m => grid_Span.calls m hk) ?_)
 rintro t31 _ h H ⟨I, _, ⟨a32, p33, n34, rfl, rfl⟩, hk⟩
 replace hs := bk hk ct1 rfl
 cases hs.nO d0
 refine ⟨hs.keep, ?_⟩
 refine aRun [7] 0 hs.keep ?_
 replace hs := hs.pk (.c d0 .n)
 replace hs := bk0 hs ct1 rfl
 refine aEnd ?_
 refine st 1 [] ?_
 obtain ⟨s42, m49, HR48⟩ := bind_some H
 refine k_loop 0 (fun k' ρ h => ∃ (x36 : Int) (x37 : List api_Cell), ∃ a38 p39 n40 I, paint_brush_erase.l1.m K t25 t31 k' x36 x37 = some s42 ∧ Fits [(0, pv b0), (4, pv b30), (18, .slice a32 t31.length p33), (19, iv (t31.length : Int)), (20, iv x36)] ρ ∧ St E [rO (tInt .i64) .i a32 p33 t31.length t31, rO t_api_Cell .i a38 p39 n40 x37, rB b0 [iv x0.s'.Rows, iv x0.s'.Cols, .slice a38 n40 p39, iv x0.s'.Cursor, .bool x0.s'.Locked, .bool x0.s'.Insert, iv x0.at'] 376, rO t_api_Cell .i a26 p27 t25.Cells.length t25.Cells, rB b30 [iv t25.Rows, iv t25.Cols, .slice a26 t25.Cells.length p27, iv t25.Cursor, .bool t25.Locked, .bool t25.Insert] 56] I h) (fun ρ h => ∃ (x43 : List api_Cell), ∃ a44 p45 n46 I, x43 = s42 ∧ Fits [] ρ ∧ St E [rO t_api_Cell .i a44 p45 n46 x43, rB b0 [iv x0.s'.Rows, iv x0.s'.Cols, .slice a44 n46 p45, iv x0.s'.Cursor, .bool x0.s'.Locked, .bool x0.s'.Insert, iv x0.at'] 376] I h) K ⟨0, x0.s'.Cells, a21, p22, x0.s'.Cells.length, I, m49, ft, hs.pk (.c d0 (.c d3 (.c d2 (.c d1 (.c d0 .n)))))⟩ ?_ rfl ?_
 rotate_left
 ·rintro ρ h ⟨x43, a44, p45, n46, I, rfl, hf, hs⟩
  have H := HR48
  try dsimp only at H
  cases hs.nO d0
  refine k_fin ?_
  obtain rfl := si H
  exact ⟨_, by kernel_rfl, I, _, ⟨a44, p45, x43.length, rfl, rfl⟩, hs.pk (.c d1 (.c d0 .n))⟩
 clear HR48 m49 H
 rintro k' ρ h ⟨x36, x37, a38, p39, n40, I, H, hf, hs⟩
 cases k' with
 | zero => cases H
 | succ k =>
  rw [paint_brush_erase.l1.m] at H
  refine k_fits _ hf ?_ rfl
  cases hs.nO d1
  refine st 1 [] ?_
  obtain ⟨j52, e61, H⟩ := letJ_some H
  refine k_joinT (fun T ρ h => ∃ (x51 : Bool), ∃ I, j52 x51 = some s42 ∧ Fits [(0, pv b0), (4, pv b30), (18, .slice a32 t31.length p33), (19, iv (t31.length : Int)), (20, iv x36), (21, .bool x51)] ρ ∧ St E T I h) hs tl0 ?_ ?_
  ·refine st 1 [] (k_ite H (fun c50 H => ?_) (fun c50 H => ?_))
   ·exact st 1 [] (k_end ⟨true, I, H, ft, hs⟩)
   exact st 1 [] (k_end ⟨false, I, H, ft, hs⟩)
  clear H
  rintro ρ h ⟨x51, I, H, hf, hs⟩
  refine k_fits _ hf ?_ rfl
  subst e61
  try dsimp only at H
  cases x51
  ·rw [cond_false] at H
   refine st 2 [false] (k_out rfl ?_)
   obtain rfl := si H
   exact xE ⟨x37, a38, p39, x37.length, I, rfl, trivial, hs.pk (.c d1 (.c d1 .n))⟩
  rw [cond_true] at H
  obtain ⟨c53, H⟩ := guard_pos H
  obtain ⟨c54, H⟩ := guard_pos H
  refine st 7 [true] (k_val (elemPtr a32 (x36.toNat * 1)) (pI (e := 3) (ik := .i64) (hs.sO d0) c53 c54) ?_)
  refine k_op (lC ((hs.sO d0).cell1 c53 c54) ?_)
  refine st 4 [] (k_op (lN (hs.bl d4) 0 6 ?_))
  obtain ⟨hk, bk⟩ := hs.call tk0 (.c (qO d3) .n)
  refine st 1 [] (k_call H (fun _ m => field_Open.calls m hk) ?_)
  rintro t55 _ h H ⟨I, _, ⟨rfl, rfl⟩, hk⟩
  replace hs := bk hk ct0 rfl
  cases t55
  ·rw [cond_false] at H
   exact st 8 [false] (k_endL ⟨k, Nat.lt_succ_self _, (w64 (x36 + 1)), x37, a38, p39, x37.length, I, H, ft, hs.pk (.c d0 (.c d0 (.c d0 (.c d0 (.c d0 .n)))))⟩)
  rw [cond_true] at H
  refine st 7 [true] (k_op (lB (hs.bl d2) 2 rfl ?_))
  obtain ⟨c56, H⟩ := guard_pos H
  obtain ⟨c57, H⟩ := guard_pos H
  refine st 1 [] (k_val (elemPtr a38 ((at_ t31 x36).toNat * 6)) (pI (e := 89) (ik := .i64) (hs.sO d1) c56 c57) ?_)
  refine k_val (elemPtr a38 ((at_ t31 x36).toNat * 6 + 5)) (pF (off := 5) (hs.sO d1) c56 c57) ?_
  obtain ⟨y59, g58, q60⟩ := (hs.sO d1).toSl.seg c56 c57
  obtain rfl := t_api_Cell.open_ q60
  replace hs := (hs.f d1)
  refine k_op (sE hs 5 [.int .u8 0] (⟨(at_ x37 (at_ t31 x36)).Field, ((at_ x37 (at_ t31 x36)).Attr), 0⟩ : api_Cell) c56 c57 g58 (ones_of rfl) rfl ?_)
  intro h hs
  exact st 6 [] (k_endL ⟨k, Nat.lt_succ_self _, (w64 (x36 + 1)), (x37.set (at_ t31 x36).toNat (⟨(at_ x37 (at_ t31 x36)).Field, ((at_ x37 (at_ t31 x36)).Attr), 0⟩ : api_Cell)), a38, p39, x37.length, I, H, ft, hs.pk (.c d1 (.c d0 (.c d0 (.c d0 (.c d0 .n)))))⟩)
def paint_brush_do.l1.m (K : Nat) (x1 : api_Order) : Nat → Int → Int → Int → (List api_Cell) → Int → Bool → Bool → Int → Option (Int × Int × (List api_Cell) × Int × Bool × Bool × Int)
  | 0, _, _, _, _, _, _, _, _ => none
  | k + 1, x31, x32, x33, x34, x39, x40, x41, x42 => (if x31 < (x1.Text.length : Int) then (if 0 ≤ x31 then ((paint_brush_put.m (⟨(⟨x32, x33, x34, x39, x40, x41⟩ : api_Screen), x42⟩ : paint_brush) (⟨false, (⟨false, false, 0, false⟩ : api_Attr), (at_ x1.Text x31)⟩ : api_Cell)).bind fun t59 => (paint_brush_do.l1.m K x1 k (w64 (x31 + 1)) t59.s'.Rows t59.s'.Cols t59.s'.Cells t59.s'.Cursor t59.s'.Locked t59.s'.Insert t59.at')) else none) else (some ((x32, x33, x34, x39, x40, x41, x42))))
def paint_brush_do.l2.m (K : Nat) (x1 : api_Order) (t78 : (List Int)) : Nat → Int → Int → Int → (List api_Cell) → Int → Bool → Bool → Int → Option (Int × Int × (List api_Cell) × Int × Bool × Bool × Int)
  | 0, _, _, _, _, _, _, _, _ => none
  | k + 1, x83, x84, x85, x86, x91, x92, x93, x94 => (if x83 < (t78.length : Int) then ((paint_brush_put.m (⟨(⟨x84, x85, x86, x91, x92, x93⟩ : api_Screen), x94⟩ : paint_brush) (⟨false, (⟨false, false, 0, false⟩ : api_Attr), x1.Char⟩ : api_Cell)).bind fun t110 => (paint_brush_do.l2.m K x1 t78 k (w64 (x83 + 1)) t110.s'.Rows t110.s'.Cols t110.s'.Cells t110.s'.Cursor t110.s'.Locked t110.s'.Insert t110.at')) else (some ((x84, x85, x86, x91, x92, x93, x94))))
def paint_brush_do.m (K : Nat) (x0 : paint_brush) (x1 : api_Order) : Option paint_brush :=
  (if x1.Kind = 1 then ((paint_brush_do.l1.m K x1 K 0 x0.s'.Rows x0.s'.Cols x0.s'.Cells x0.s'.Cursor x0.s'.Locked x0.s'.Insert x0.at').bind fun (x44, x45, x46, x51, x52, x53, x54) => (some (⟨(⟨x44, x45, x46, x51, x52, x53⟩ : api_Screen), x54⟩ : paint_brush))) else (if x1.Kind = 2 then ((paint_brush_put.m x0 (⟨true, x1.Attr, 0⟩ : api_Cell)).bind fun t65 => (some t65)) else (if x1.Kind = 4 then (some (⟨(⟨x0.s'.Rows, x0.s'.Cols, x0.s'.Cells, x0.at', x0.s'.Locked, x0.s'.Insert⟩ : api_Screen), x0.at'⟩ : paint_brush)) else (if x1.Kind = 5 then ((paint_brush_tab.m K x0).bind fun t72 => (some t72)) else (if x1.Kind = 6 then ((grid_Span.m K x0.s' x0.at' x1.Addr).bind fun t78 => ((paint_brush_do.l2.m K x1 t78 K 0 x0.s'.Rows x0.s'.Cols x0.s'.Cells x0.s'.Cursor x0.s'.Locked x0.s'.Insert x0.at').bind fun (x96, x97, x98, x103, x104, x105, x106) => (if x1.Kind = 7 then ((paint_brush_erase.m K (⟨(⟨x96, x97, x98, x103, x104, x105⟩ : api_Screen), x106⟩ : paint_brush) x1.Addr).bind fun t116 => (some (⟨t116.s', x1.Addr⟩ : paint_brush))) else (some (⟨(⟨x96, x97, x98, x103, x104, x105⟩ : api_Screen), x1.Addr⟩ : paint_brush))))) else (if x1.Kind = 7 then ((paint_brush_erase.m K x0 x1.Addr).bind fun t122 => (some (⟨t122.s', x1.Addr⟩ : paint_brush))) else (if x1.Kind = 3 then (some (⟨x0.s', x1.Addr⟩ : paint_brush)) else (some x0))))))))
theorem paint_brush_do.calls {B I : Gh} {h : Heap} {K : Nat} {x0 : paint_brush} {x1 : api_Order} {b0 : Nat} {a21 : Option Addr} {p22 : Nat} {n23 : Nat} {a25 : Option Addr} {p26 : Nat} {n27 : Nat} {r : paint_brush} (H : paint_brush_do.m K x0 x1 = some r)  :
    Fc Tryz.prog 275 #[pv b0, .agg #[iv x1.Kind, .slice a25 n27 p26, .bool x1.Attr.Protected, .bool x1.Attr.Numeric, iv x1.Attr.Show, .bool x1.Attr.Modified, iv x1.Addr, .int .u8 x1.Char]] [rB b0 [iv x0.s'.Rows, iv x0.s'.Cols, .slice a21 n23 p22, iv x0.s'.Cursor, .bool x0.s'.Locked, .bool x0.s'.Insert, iv x0.at'] 376, rO t_api_Cell .i a21 p22 n23 x0.s'.Cells, rR (tInt .u8) .b a25 p26 n27 x1.Text] B I h (fun v L => ∃ a128 p129 n130, v = .tuple #[] ∧ L = [rB b0 [iv r.s'.Rows, iv r.s'.Cols, .slice a128 n130 p129, iv r.s'.Cursor, .bool r.s'.Locked, .bool r.s'.Insert, iv r.at'] 376, rO t_api_Cell .i a128 p129 n130 r.s'.Cells]) := by
 refine fc_of fun E hs => ?_
 unfold paint_brush_do.m at H
 cases hs.nO d1
 cases hs.nR d2
 refine fn_of (rs := []) (N := 81) Tryz.func275 rfl rfl rfl rfl ?_
 refine st 2 [] (k_op (nB hs [iv x1.Kind, .slice a25 x1.Text.length p26, .bool x1.Attr.Protected, .bool x1.Attr.Numeric, iv x1.Attr.Show, .bool x1.Attr.Modified, iv x1.Addr, .int .u8 x1.Char] ?_))
 intro b29 h hs
 refine st 4 [] (k_op (lB (hs.bl d0) 0 rfl ?_))
 refine st 20 [] (k_ite H (fun c30 H => ?_) (fun c30 H => ?_))
 ·refine st 8 [true] (k_op (lB (hs.bl d0) 1 rfl ?_))
  refine st 4 [] ?_
  obtain ⟨s43, m56, HR55⟩ := bind_some H
  refine k_loop 8 (fun k' ρ h => ∃ (x31 : Int) (x32 : Int) (x33 : Int) (x34 : List api_Cell) (x39 : Int) (x40 : Bool) (x41 : Bool) (x42 : Int), ∃ a35 p36 n37 I, paint_brush_do.l1.m K x1 k' x31 x32 x33 x34 x39 x40 x41 x42 = some s43 ∧ Fits [(0, pv b0), (23, .slice a25 x1.Text.length p26), (24, iv (x1.Text.length : Int)), (25, iv x31)] ρ ∧ St E [rO t_api_Cell .i a35 p36 n37 x34, rB b0 [iv x32, iv x33, .slice a35 n37 p36, iv x39, .bool x40, .bool x41, iv x42] 376, rR (tInt .u8) .b a25 p26 x1.Text.length x1.Text] I h) (fun ρ h => ∃ (x44 : Int) (x45 : Int) (x46 : List api_Cell) (x51 : Int) (x52 : Bool) (x53 : Bool) (x54 : Int), ∃ a47 p48 n49 I, (x44, x45, x46, x51, x52, x53, x54) = s43 ∧ Fits [] ρ ∧ St E [rO t_api_Cell .i a47 p48 n49 x46, rB b0 [iv x44, iv x45, .slice a47 n49 p48, iv x51, .bool x52, .bool x53, iv x54] 376, rR (tInt .u8) .b a25 p26 x1.Text.length x1.Text] I h) K ⟨0, x0.s'.Rows, x0.s'.Cols, x0.s'.Cells, x0.s'.Cursor, x0.s'.Locked, x0.s'.Insert, x0.at', a21, p22, x0.s'.Cells.length, I, m56, ft, hs.pk (.c d2 (.c d1 (.c d1 .n)))⟩ ?_ rfl ?_
  rotate_left
  ·rintro ρ h ⟨x44, x45, x46, x51, x52, x53, x54, a47, p48, n49, I, rfl, hf, hs⟩
   have H := HR55
   try dsimp only at H
   refine k_fits _ hf ?_ rfl
   cases hs.nO d0
   refine st 1 [] (k_fin ?_)
   obtain rfl := si H
   exact ⟨_, by kernel_rfl, I, _, ⟨a47, p48, x46.length, rfl, rfl⟩, hs.pk (.c d1 (.c d0 .n))⟩
  clear HR55 m56 H
  rintro k' ρ h ⟨x31, x32, x33, x34, x39, x40, x41, x42, a35, p36, n37, I, H, hf, hs⟩
  cases k' with
  | zero => cases H
  | succ k =>
   rw [paint_brush_do.l1.m] at H
   refine k_fits _ hf ?_ rfl
   cases hs.nO d0
   refine st 2 [] (k_ite H (fun c57 H => ?_) (fun c57 H => ?_))
   rotate_left
   ·refine st 3 [false] (k_out rfl ?_)
    obtain rfl := si H
    exact xE ⟨x32, x33, x34, x39, x40, x41, x42, a35, p36, x34.length, I, rfl, trivial, hs.pk (.c d0 (.c d0 (.c d0 .n)))⟩
   obtain ⟨c58, H⟩ := guard_pos H
   refine st 8 [true] (k_val (elemPtr a25 (x31.toNat * 1)) (pI (e := 5) (ik := .i64) (hs.sR d2) c58 c57) ?_)
   refine k_op (lC ((hs.sR d2).cell1 c58 c57) ?_)
   obtain ⟨hk, bk⟩ := (hs.f d1).call tk2 .n
   refine st 6 [] (k_call H (fun _ m => paint_brush_put.calls m hk) ?_)
   rintro t59 _ h H ⟨I, _, ⟨a60, p61, n62, rfl, rfl⟩, hk⟩
   replace hs := bk hk ct2 rfl
   cases hs.nO d1
   exact st 6 [] (k_endL ⟨k, Nat.lt_succ_self _, (w64 (x31 + 1)), t59.s'.Rows, t59.s'.Cols, t59.s'.Cells, t59.s'.Cursor, t59.s'.Locked, t59.s'.Insert, t59.at', a60, p61, t59.s'.Cells.length, I, H, ft, hs.pk (.c d1 (.c d0 (.c d0 .n)))⟩)
 refine st 7 [false] (k_ite H (fun c64 H => ?_) (fun c64 H => ?_))
 ·refine st 8 [true] (k_op (lN (hs.bl d0) 2 4 ?_))
  obtain ⟨hk, bk⟩ := ((hs.f d2).f d2).call tk2 .n
  refine st 1 [] (k_call H (fun _ m => paint_brush_put.calls m hk) ?_)
  rintro t65 _ h H ⟨I, _, ⟨a66, p67, n68, rfl, rfl⟩, hk⟩
  replace hs := bk hk ct2 rfl
  cases hs.nO d1
  refine st 2 [] (k_fin ?_)
  obtain rfl := si H
  exact ⟨_, by kernel_rfl, I, _, ⟨a66, p67, t65.s'.Cells.length, rfl, rfl⟩, hs.pk (.c d0 (.c d0 .n))⟩
 refine st 7 [false] (k_ite H (fun c70 H => ?_) (fun c70 H => ?_))
 ·refine st 10 [true] (k_op (lB (hs.bl d1) 6 rfl ?_))
  refine st 3 [] (k_op (sB (v := iv x0.at') (hs.f d1) cw3 ?_))
  intro h hs
  refine st 2 [] (k_fin ?_)
  obtain rfl := si H
  exact ⟨_, by kernel_rfl, I, _, ⟨a21, p22, x0.s'.Cells.length, rfl, rfl⟩, hs.pk (.c d0 (.c d1 .n))⟩
 refine st 7 [false] (k_ite H (fun c71 H => ?_) (fun c71 H => ?_))
 ·obtain ⟨hk, bk⟩ := ((hs.f d2).f d2).call tk2 .n
  refine st 7 [true] (k_call H (fun _ m => paint_brush_tab.calls m hk) ?_)
  rintro t72 _ h H ⟨I, _, ⟨a73, p74, n75, rfl, rfl⟩, hk⟩
  replace hs := bk hk ct2 rfl
  cases hs.nO d1
  refine st 2 [] (k_fin ?_)
  obtain rfl := si H
  exact ⟨_, by kernel_rfl, I, _, ⟨a73, p74, t72.s'.Cells.length, rfl, rfl⟩, hs.pk (.c d0 (.c d0 .n))⟩
 refine st 7 [false] (k_ite H (fun c77 H => ?_) (fun c77 H => ?_))
 rotate_left
 ·refine st 7 [false] (k_ite H (fun c121 H => ?_) (fun c121 H => ?_))
  ·refine st 7 [true] (k_op (lB (hs.bl d0) 0 rfl ?_))
   refine k_val (.bool true) (pr_bool (by kernel_rfl) (eqT c121)) ?_
   refine st 5 [true] (k_op (lB (hs.bl d0) 6 rfl ?_))
   obtain ⟨hk, bk⟩ := ((hs.f d2).f d2).call tk2 .n
   refine k_call H (fun _ m => paint_brush_erase.calls m hk) ?_
   rintro t122 _ h H ⟨I, _, ⟨a123, p124, n125, rfl, rfl⟩, hk⟩
   replace hs := bk hk ct2 rfl
   cases hs.nO d1
   refine st 6 [] (k_op (lB (hs.bl d2) 6 rfl ?_))
   refine st 2 [] (k_op (sB (v := iv x1.Addr) hs cw6 ?_))
   intro h hs
   refine st 2 [] (k_fin ?_)
   obtain rfl := si H
   exact ⟨_, by kernel_rfl, I, _, ⟨a123, p124, t122.s'.Cells.length, rfl, rfl⟩, hs.pk (.c d0 (.c d0 .n))⟩
  refine st 6 [false] (k_ite H (fun c127 H => ?_) (fun c127 H => ?_))
  ·refine st 8 [true] (k_op (lB (hs.bl d0) 6 rfl ?_))
   refine st 2 [] (k_op (sB (v := iv x1.Addr) (hs.f d1) cw6 ?_))
   intro h hs
   refine st 2 [] (k_fin ?_)
   obtain rfl := si H
   exact ⟨_, by kernel_rfl, I, _, ⟨a21, p22, x0.s'.Cells.length, rfl, rfl⟩, hs.pk (.c d0 (.c d1 .n))⟩
  refine st 5 [false] (k_fin ?_)
  obtain rfl := si H
  exact ⟨_, by kernel_rfl, I, _, ⟨a21, p22, x0.s'.Cells.length, rfl, rfl⟩, hs.pk (.c d1 (.c d1 .n))⟩
 refine st 5 [true] ?_
 obtain ⟨hs0, bk0⟩ := hs.call tk0 (.c (qL d1) (.c (qL d0) (.c (qO d2) .n)))
 have hs := hs0
 refine k_regD hs0 13 ?_
 refine aRun [0, 1, 2] 10 hs.keep ?_
 refine aG 3 rfl hs.keep (lls hs0 d0 0 6 rfl) (nmL hs0 d0) ?_
 refine aRun [4, 5, 6] 6 hs.keep ?_
 refine aL 7 rfl hs.keep (ll hs0 d0 (n := 6) rfl) (nmL hs0 d0) ?_
 refine aRun [8] 4 hs.keep ?_
 refine aL 9 rfl hs.keep (ll hs0 d1 (n := 6) rfl) (nmL hs0 d1) ?_
 refine aRun [12] 2 hs.keep ?_
 obtain ⟨hk, bk⟩ := hs.call tk0 (.c (qB d2) .n)
 refine aO1 10 rfl (o_call H (fun _ m => grid_Span.calls m hk) ?_)
 rintro t78 _ h H ⟨I, _, ⟨a79, p80, n81, rfl, rfl⟩, hk⟩
 replace hs := bk hk ct1 rfl
 cases hs.nO d0
 refine ⟨hs.keep, ?_⟩
 refine aRun [11] 0 hs.keep ?_
 replace hs := hs.pk (.c d0 .n)
 replace hs := bk0 hs ct1 rfl
 refine aEnd ?_
 refine st 1 [] ?_
 obtain ⟨s95, m108, HR107⟩ := bind_some H
 refine k_loop 10 (fun k' ρ h => ∃ (x83 : Int) (x84 : Int) (x85 : Int) (x86 : List api_Cell) (x91 : Int) (x92 : Bool) (x93 : Bool) (x94 : Int), ∃ a87 p88 n89 I, paint_brush_do.l2.m K x1 t78 k' x83 x84 x85 x86 x91 x92 x93 x94 = some s95 ∧ Fits [(0, pv b0), (3, pv b29), (60, iv (t78.length : Int)), (61, iv x83)] ρ ∧ St E [rO t_api_Cell .i a87 p88 n89 x86, rB b0 [iv x84, iv x85, .slice a87 n89 p88, iv x91, .bool x92, .bool x93, iv x94] 376, rB b29 [iv x1.Kind, .slice a25 x1.Text.length p26, .bool x1.Attr.Protected, .bool x1.Attr.Numeric, iv x1.Attr.Show, .bool x1.Attr.Modified, iv x1.Addr, .int .u8 x1.Char] 133, rR (tInt .u8) .b a25 p26 x1.Text.length x1.Text] I h) (fun ρ h => ∃ (x96 : Int) (x97 : Int) (x98 : List api_Cell) (x103 : Int) (x104 : Bool) (x105 : Bool) (x106 : Int), ∃ a99 p100 n101 I, (x96, x97, x98, x103, x104, x105, x106) = s95 ∧ Fits [(0, pv b0), (3, pv b29)] ρ ∧ St E [rO t_api_Cell .i a99 p100 n101 x98, rB b0 [iv x96, iv x97, .slice a99 n101 p100, iv x103, .bool x104, .bool x105, iv x106] 376, rB b29 [iv x1.Kind, .slice a25 x1.Text.length p26, .bool x1.Attr.Protected, .bool x1.Attr.Numeric, iv x1.Attr.Show, .bool x1.Attr.Modified, iv x1.Addr, .int .u8 x1.Char] 133, rR (tInt .u8) .b a25 p26 x1.Text.length x1.Text] I h) K ⟨0, x0.s'.Rows, x0.s'.Cols, x0.s'.Cells, x0.s'.Cursor, x0.s'.Locked, x0.s'.Insert, x0.at', a21, p22, x0.s'.Cells.length, I, m108, ft, hs.pk (.c d3 (.c d2 (.c d1 (.c d1 .n))))⟩ ?_ rfl ?_
 ·clear HR107 m108 H
  rintro k' ρ h ⟨x83, x84, x85, x86, x91, x92, x93, x94, a87, p88, n89, I, H, hf, hs⟩
  cases k' with
  | zero => cases H
  | succ k =>
   rw [paint_brush_do.l2.m] at H
   refine k_fits _ hf ?_ rfl
   cases hs.nO d0
   refine st 2 [] (k_ite H (fun c109 H => ?_) (fun c109 H => ?_))
   rotate_left
   ·refine st 3 [false] (k_out rfl ?_)
    obtain rfl := si H
    exact xE ⟨x84, x85, x86, x91, x92, x93, x94, a87, p88, x86.length, I, rfl, ft, hs.pk (.c d0 (.c d0 (.c d0 (.c d0 .n))))⟩
   refine st 9 [true] (k_op (lB (hs.bl d2) 7 rfl ?_))
   obtain ⟨hk, bk⟩ := (hs.f d1).call tk2 .n
   refine st 1 [] (k_call H (fun _ m => paint_brush_put.calls m hk) ?_)
   rintro t110 _ h H ⟨I, _, ⟨a111, p112, n113, rfl, rfl⟩, hk⟩
   replace hs := bk hk ct2 rfl
   cases hs.nO d1
   exact st 6 [] (k_endL ⟨k, Nat.lt_succ_self _, (w64 (x83 + 1)), t110.s'.Rows, t110.s'.Cols, t110.s'.Cells, t110.s'.Cursor, t110.s'.Locked, t110.s'.Insert, t110.at', a111, p112, t110.s'.Cells.length, I, H, ft, hs.pk (.c d1 (.c d0 (.c d0 (.c d0 .n))))⟩)
 rintro ρ h ⟨x96, x97, x98, x103, x104, x105, x106, a99, p100, n101, I, rfl, hf, hs⟩
 have H := HR107
 try dsimp only at H
 refine k_fits _ hf ?_ rfl
 cases hs.nO d0
 refine st 4 [] (k_op (lB (hs.bl d2) 0 rfl ?_))
 refine k_ite H (fun c115 H => ?_) (fun c115 H => ?_)
 rotate_left
 ·refine st 8 [false] (k_op (lB (hs.bl d2) 6 rfl ?_))
  refine st 2 [] (k_op (sB (v := iv x1.Addr) (hs.f d1) cw6 ?_))
  intro h hs
  refine st 2 [] (k_fin ?_)
  obtain rfl := si H
  exact ⟨_, by kernel_rfl, I, _, ⟨a99, p100, x98.length, rfl, rfl⟩, hs.pk (.c d0 (.c d0 .n))⟩
 refine st 5 [true] (k_op (lB (hs.bl d2) 6 rfl ?_))
 obtain ⟨hk, bk⟩ := (hs.f d1).call tk2 .n
 refine k_call H (fun _ m => paint_brush_erase.calls m hk) ?_
 rintro t116 _ h H ⟨I, _, ⟨a117, p118, n119, rfl, rfl⟩, hk⟩
 replace hs := bk hk ct2 rfl
 cases hs.nO d1
 refine st 6 [] (k_op (lB (hs.bl d2) 6 rfl ?_))
 refine st 2 [] (k_op (sB (v := iv x1.Addr) hs cw6 ?_))
 intro h hs
 refine st 2 [] (k_fin ?_)
 obtain rfl := si H
 exact ⟨_, by kernel_rfl, I, _, ⟨a117, p118, t116.s'.Cells.length, rfl, rfl⟩, hs.pk (.c d0 (.c d0 .n))⟩
def paint_All.l1.m (K : Nat) (x0 : api_Screen) (x1 : Int) (x2 : (List api_Order)) : Nat → Int → Option ((api_Screen × Int × GoErr) ⊕ (Unit))
  | 0, _ => none
  | k + 1, x31 => (letJ (α := Bool → Option ((api_Screen × Int × GoErr) ⊕ (Unit))) (fun (x36 : Bool) => (bif x36 then (if 0 ≤ x31 then (if x31 < (x2.length : Int) then ((grid_Size.m x0).bind fun t49 => ((order_Right.m K (⟨(at_ x2 x31).Kind, (at_ x2 x31).Text, ((at_ x2 x31).Attr), (at_ x2 x31).Addr, (at_ x2 x31).Char⟩ : api_Order) t49).bind fun t50 => (letJ (α := Bool → Option ((api_Screen × Int × GoErr) ⊕ (Unit))) (fun (x57 : Bool) => (bif x57 then (some (Sum.inl (x0, x1, (GoErr.spot x31 t50)))) else (paint_All.l1.m K x0 x1 x2 k (w64 (x31 + 1))))) fun (j58 : Bool → Option ((api_Screen × Int × GoErr) ⊕ (Unit))) => (if t50 = GoErr.nil then (j58 false) else (j58 true))))) else none) else none) else (some (Sum.inr ())))) fun (j37 : Bool → Option ((api_Screen × Int × GoErr) ⊕ (Unit))) => (if x31 < (x2.length : Int) then (j37 true) else (j37 false)))
def paint_All.l2.m (K : Nat) (x2 : (List api_Order)) : Nat → Int → Int → Int → (List api_Cell) → Int → Bool → Bool → Int → Option (Int × Int × (List api_Cell) × Int × Bool × Bool × Int)
  | 0, _, _, _, _, _, _, _, _ => none
  | k + 1, x73, x74, x75, x76, x81, x82, x83, x84 => (letJ (α := Bool → Option (Int × Int × (List api_Cell) × Int × Bool × Bool × Int)) (fun (x100 : Bool) => (bif x100 then (if 0 ≤ x73 then (if x73 < (x2.length : Int) then ((paint_brush_do.m K (⟨(⟨x74, x75, x76, x81, x82, x83⟩ : api_Screen), x84⟩ : paint_brush) (⟨(at_ x2 x73).Kind, (at_ x2 x73).Text, ((at_ x2 x73).Attr), (at_ x2 x73).Addr, (at_ x2 x73).Char⟩ : api_Order)).bind fun t113 => (paint_All.l2.m K x2 k (w64 (x73 + 1)) t113.s'.Rows t113.s'.Cols t113.s'.Cells t113.s'.Cursor t113.s'.Locked t113.s'.Insert t113.at')) else none) else none) else (some ((x74, x75, x76, x81, x82, x83, x84))))) fun (j101 : Bool → Option (Int × Int × (List api_Cell) × Int × Bool × Bool × Int)) => (if x73 < (x2.length : Int) then (j101 true) else (j101 false)))
def paint_All.m (K : Nat) (x0 : api_Screen) (x1 : Int) (x2 : (List api_Order)) : Option (api_Screen × Int × GoErr) :=
  ((paint_All.l1.m K x0 x1 x2 K 0).bind fun s32 => match s32 with | .inl q => (some q) | .inr _ => ((grid_Copy.m x0).bind fun t67 => ((paint_All.l2.m K x2 K 0 t67.Rows t67.Cols t67.Cells t67.Cursor t67.Locked t67.Insert x1).bind fun (x86, x87, x88, x93, x94, x95, x96) => (some ((⟨x86, x87, x88, x93, x94, x95⟩ : api_Screen), x96, GoErr.nil)))))
theorem paint_All.calls {B I : Gh} {h : Heap} {K : Nat} {x0 : api_Screen} {x1 : Int} {x2 : (List api_Order)} {a21 : Option Addr} {p22 : Nat} {n23 : Nat} {a25 : Option Addr} {p26 : Nat} {n27 : Nat} {r : (api_Screen × Int × GoErr)} (H : paint_All.m K x0 x1 x2 = some r)  :
    Fc Tryz.prog 239 #[.agg #[iv x0.Rows, iv x0.Cols, .slice a21 n23 p22, iv x0.Cursor, .bool x0.Locked, .bool x0.Insert], iv x1, .slice a25 n27 p26] [rR t_api_Cell .i a21 p22 n23 x0.Cells, rR t_api_Order .b a25 p26 n27 x2] B I h (fun v L => ∃ a119 p120 n121 v123, v = .tuple #[.agg #[iv r.1.Rows, iv r.1.Cols, .slice a119 n121 p120, iv r.1.Cursor, .bool r.1.Locked, .bool r.1.Insert], iv r.2.1, v123] ∧ L = [rR t_api_Cell .i a119 p120 n121 r.1.Cells, rE .i v123 r.2.2]) := by
 refine fc_of fun E hs => ?_
 unfold paint_All.m at H
 cases hs.nR d0
 cases hs.nR d1
 refine fn_of2 (rs := [.cell 6 56, .tmp 7, .tmp 8]) (N := 59) Tryz.func239 rfl rfl rfl rfl ?_
 refine st 2 [] (k_op (nB hs [iv x0.Rows, iv x0.Cols, .slice a21 x0.Cells.length p22, iv x0.Cursor, .bool x0.Locked, .bool x0.Insert] ?_))
 intro b29 h hs
 refine k_op (nA hs [iv 0, iv 0, .slice none 0 0, iv 0, .bool false, .bool false] (.agg #[iv 0, iv 0, .slice none 0 0, iv 0, .bool false, .bool false]) ?_)
 intro b30 h hs
 refine st 11 [] ?_
 obtain ⟨s32, m34, HR33⟩ := bind_some H
 refine k_loopT hs tl0 0 (fun T k' ρ h => ∃ (x31 : Int), ∃ I, paint_All.l1.m K x0 x1 x2 k' x31 = some s32 ∧ Fits [(1, iv x1), (2, .slice a25 x2.length p26), (3, pv b29), (6, pv b30), (15, .slice a25 x2.length p26), (16, iv (x2.length : Int)), (17, iv x31)] ρ ∧ St E T I h) (fun T ρ h => ∃ I, Sum.inr () = s32 ∧ Fits [(1, iv x1), (2, .slice a25 x2.length p26), (3, pv b29), (6, pv b30)] ρ ∧ St E T I h) K ⟨0, I, m34, ft, hs⟩ ?_ rfl ?_
 rotate_left
 ·rintro ρ h ⟨I, rfl, hf, hs⟩
  have H := HR33
  try dsimp only at H
  refine k_fits _ hf ?_ rfl
  refine st 2 [] (k_op (lN (hs.bl d1) 0 6 ?_))
  obtain ⟨hk, bk⟩ := hs.call tk0 (.c (qI d2) .n)
  refine k_call H (fun _ m => grid_Copy.calls m hk) ?_
  rintro t67 _ h H ⟨I, _, ⟨a68, p69, n70, rfl, rfl⟩, hk⟩
  replace hs := bk hk ct1 rfl
  cases hs.nO d0
  refine st 2 [] (k_op (nB hs [iv t67.Rows, iv t67.Cols, .slice a68 t67.Cells.length p69, iv t67.Cursor, .bool t67.Locked, .bool t67.Insert, iv x1] ?_))
  intro b72 h hs
  refine st 10 [] ?_
  obtain ⟨s85, m98, HR97⟩ := bind_some H
  refine k_loopT hs tl2 2 (fun T k' ρ h => ∃ (x73 : Int) (x74 : Int) (x75 : Int) (x76 : List api_Cell) (x81 : Int) (x82 : Bool) (x83 : Bool) (x84 : Int), ∃ a77 p78 n79 I, paint_All.l2.m K x2 k' x73 x74 x75 x76 x81 x82 x83 x84 = some s85 ∧ Fits [(6, pv b30), (12, pv b72), (41, .slice a25 x2.length p26), (42, iv (x2.length : Int)), (43, iv x73)] ρ ∧ St E (rO t_api_Cell .i a77 p78 n79 x76 :: rB b72 [iv x74, iv x75, .slice a77 n79 p78, iv x81, .bool x82, .bool x83, iv x84] 376 :: T) I h) (fun T ρ h => ∃ (x86 : Int) (x87 : Int) (x88 : List api_Cell) (x93 : Int) (x94 : Bool) (x95 : Bool) (x96 : Int), ∃ a89 p90 n91 I, (x86, x87, x88, x93, x94, x95, x96) = s85 ∧ Fits [(6, pv b30), (12, pv b72)] ρ ∧ St E (rO t_api_Cell .i a89 p90 n91 x88 :: rB b72 [iv x86, iv x87, .slice a89 n91 p90, iv x93, .bool x94, .bool x95, iv x96] 376 :: T) I h) K ⟨0, t67.Rows, t67.Cols, t67.Cells, t67.Cursor, t67.Locked, t67.Insert, x1, a68, p69, t67.Cells.length, I, m98, ft, hs.pk (.c d1 (.c d0 pk0))⟩ ?_ rfl ?_
  rotate_left
  ·rintro ρ h ⟨x86, x87, x88, x93, x94, x95, x96, a89, p90, n91, I, rfl, hf, hs⟩
   have H := HR97
   try dsimp only at H
   refine k_fits _ hf ?_ rfl
   cases hs.nO d0
   refine st 1 [] ?_
   obtain ⟨hs0, bk0⟩ := (hs.f d2).call tk1 (.c (qL d1) .n)
   have hs := hs0
   refine k_regD hs0 9 ?_
   refine aRun [0, 1, 2] 8 hs.keep ?_
   refine aG 3 rfl hs.keep (lls hs0 d1 0 6 rfl) (nmL hs0 d1) ?_
   refine aRun [4, 5, 6] 4 hs.keep ?_
   refine aL 7 rfl hs.keep (ll hs0 d1 (n := 6) rfl) (nmL hs0 d1) ?_
   refine aO1 8 rfl (sN0 hs [iv x86, iv x87, .slice a89 x88.length p90, iv x93, .bool x94, .bool x95] (ones_of rfl) ?_)
   intro h hs
   refine ⟨hs.keep, ?_⟩
   replace hs := hs.pk (.c d0 .n)
   replace hs := bk0 hs ct1 rfl
   refine aOL 9 rfl (owp_pure (iv x96) (by kernel_rfl) ?_)
   refine aOL 10 rfl (owp_pure .nilIface (by kernel_rfl) ?_)
   refine aEnd ?_
   obtain rfl := si H
   obtain ⟨I, hs⟩ := (hs.f d1).fO
   exact k_retQ ⟨[.agg #[iv x86, iv x87, .slice a89 x88.length p90, iv x93, .bool x94, .bool x95], iv x96, .nilIface], (.cons (.agg (by kernel_rfl) (by kernel_rfl) (by kernel_rfl) ((hs.bl d1).seg_ 0 6 (Nat.le_of_ble_eq_true rfl))) (.cons (.tmp (by kernel_rfl)) (.cons (.tmp (by kernel_rfl)) .nil))), I, _, ⟨a89, p90, x88.length, (.nilIface), rfl, rfl⟩, hs.pk (.c d0 (.f imEN .n))⟩
  clear HR97 m98 H
  rintro k' ρ h ⟨x73, x74, x75, x76, x81, x82, x83, x84, a77, p78, n79, I, H, hf, hs⟩
  cases k' with
  | zero => cases H
  | succ k =>
   rw [paint_All.l2.m] at H
   refine k_fits _ hf ?_ rfl
   cases hs.nO d0
   refine st 1 [] ?_
   obtain ⟨j101, e118, H⟩ := letJ_some H
   refine k_joinT (fun T ρ h => ∃ (x100 : Bool), ∃ I, j101 x100 = some s85 ∧ Fits [(6, pv b30), (12, pv b72), (41, .slice a25 x2.length p26), (42, iv (x2.length : Int)), (43, iv x73), (44, .bool x100)] ρ ∧ St E T I h) hs tl0 ?_ ?_
   ·refine st 1 [] (k_ite H (fun c99 H => ?_) (fun c99 H => ?_))
    ·exact st 1 [] (k_end ⟨true, I, H, ft, hs⟩)
    exact st 1 [] (k_end ⟨false, I, H, ft, hs⟩)
   clear H
   rintro ρ h ⟨x100, I, H, hf, hs⟩
   refine k_fits _ hf ?_ rfl
   subst e118
   try dsimp only at H
   cases x100
   ·rw [cond_false] at H
    refine st 2 [false] (k_out rfl ?_)
    obtain rfl := si H
    exact xE ⟨x74, x75, x76, x81, x82, x83, x84, a77, p78, x76.length, I, rfl, ft, hs.pk (.c d0 (.c d0 pk0))⟩
   rw [cond_true] at H
   obtain ⟨c102, H⟩ := guard_pos H
   obtain ⟨c103, H⟩ := guard_pos H
   refine st 7 [true] (k_val (elemPtr a25 (x73.toNat * 8)) (pI (e := 133) (ik := .i64) (hs.sR d5) c102 c103) ?_)
   obtain ⟨y105, g104, q106⟩ := (hs.sR d5).toSl.seg c102 c103
   obtain ⟨a107, p108, n109, rfl, q111⟩ := t_api_Order.open_ q106
   obtain rfl := q111.2
   replace hs := hs.pR q111
   refine k_op (lG g104 ?_)
   refine k_op (nA hs [iv 0, .slice none 0 0, .bool false, .bool false, iv 0, .bool false, iv 0, .int .u8 0] (.agg #[iv 0, .slice none 0 0, .bool false, .bool false, iv 0, .bool false, iv 0, .int .u8 0]) ?_)
   intro b112 h hs
   refine k_op (sN0 hs [iv ((at_ x2 x73).Kind), .slice a107 (((at_ x2 x73).Text).length) p108, .bool (((at_ x2 x73).Attr).Protected), .bool (((at_ x2 x73).Attr).Numeric), iv (((at_ x2 x73).Attr).Show), .bool (((at_ x2 x73).Attr).Modified), iv ((at_ x2 x73).Addr), .int .u8 ((at_ x2 x73).Char)] (ones_of rfl) ?_)
   intro h hs
   refine st 3 [] (k_op (lN (hs.bl d0) 0 8 ?_))
   obtain ⟨hk, bk⟩ := ((hs.f d2).f d3).call tk2 (.c (qB d1) .n)
   refine k_call H (fun _ m => paint_brush_do.calls m hk) ?_
   rintro t113 _ h H ⟨I, _, ⟨a114, p115, n116, rfl, rfl⟩, hk⟩
   replace hs := bk hk ct2 rfl
   cases hs.nO d1
   exact st 6 [] (k_endL ⟨k, Nat.lt_succ_self _, (w64 (x73 + 1)), t113.s'.Rows, t113.s'.Cols, t113.s'.Cells, t113.s'.Cursor, t113.s'.Locked, t113.s'.Insert, t113.at', a114, p115, t113.s'.Cells.length, I, H, ft, hs.pk (.c d1 (.c d0 pk2))⟩)
 clear m34 H
 rintro k' ρ h ⟨x31, I, H, hf, hs⟩
 cases k' with
 | zero => cases H
 | succ k =>
  rw [paint_All.l1.m] at H
  refine k_fits _ hf ?_ rfl
  refine st 1 [] ?_
  obtain ⟨j37, e66, H⟩ := letJ_some H
  refine k_joinT (fun T ρ h => ∃ (x36 : Bool), ∃ I, j37 x36 = some s32 ∧ Fits [(1, iv x1), (2, .slice a25 x2.length p26), (3, pv b29), (6, pv b30), (15, .slice a25 x2.length p26), (16, iv (x2.length : Int)), (17, iv x31), (18, .bool x36)] ρ ∧ St E T I h) hs tl0 ?_ ?_
  ·refine st 1 [] (k_ite H (fun c35 H => ?_) (fun c35 H => ?_))
   ·exact st 1 [] (k_end ⟨true, I, H, ft, hs⟩)
   exact st 1 [] (k_end ⟨false, I, H, ft, hs⟩)
  clear H
  rintro ρ h ⟨x36, I, H, hf, hs⟩
  refine k_fits _ hf ?_ rfl
  subst e66
  try dsimp only at H
  cases x36
  ·rw [cond_false] at H
   refine st 2 [false] (k_out rfl ?_)
   obtain rfl := si H
   exact xE ⟨I, rfl, ft, hs⟩
  rw [cond_true] at H
  obtain ⟨c38, H⟩ := guard_pos H
  obtain ⟨c39, H⟩ := guard_pos H
  refine st 8 [true] (k_val (elemPtr a25 (x31.toNat * 8)) (pI (e := 133) (ik := .i64) (hs.sR d3) c38 c39) ?_)
  obtain ⟨y41, g40, q42⟩ := (hs.sR d3).toSl.seg c38 c39
  obtain ⟨a43, p44, n45, rfl, q47⟩ := t_api_Order.open_ q42
  obtain rfl := q47.2
  replace hs := hs.pR q47
  refine k_op (lG g40 ?_)
  refine k_op (nA hs [iv 0, .slice none 0 0, .bool false, .bool false, iv 0, .bool false, iv 0, .int .u8 0] (.agg #[iv 0, .slice none 0 0, .bool false, .bool false, iv 0, .bool false, iv 0, .int .u8 0]) ?_)
  intro b48 h hs
  refine st 1 [] (k_op (sN0 hs [iv ((at_ x2 x31).Kind), .slice a43 (((at_ x2 x31).Text).length) p44, .bool (((at_ x2 x31).Attr).Protected), .bool (((at_ x2 x31).Attr).Numeric), iv (((at_ x2 x31).Attr).Show), .bool (((at_ x2 x31).Attr).Modified), iv ((at_ x2 x31).Addr), .int .u8 ((at_ x2 x31).Char)] (ones_of rfl) ?_))
  intro h hs
  refine st 2 [] ?_
  obtain ⟨hs0, bk0⟩ := hs.call tk0 (.c (qL d0) (.c (qL d3) (.c (qK d4) (.c (qB d1) .n))))
  have hs := hs0
  refine k_regD hs0 5 ?_
  refine aG 0 rfl hs.keep (lls hs0 d0 0 8 rfl) (nmL hs0 d0) ?_
  refine aG 1 rfl hs.keep (lls hs0 d1 0 6 rfl) (nmL hs0 d1) ?_
  obtain ⟨hk, bk⟩ := hs.call tk0 (.c (qI d2) .n)
  refine aO1 2 rfl (o_call H (fun _ m => grid_Size.calls m hk) ?_)
  rintro t49 _ h H ⟨I, _, ⟨rfl, rfl⟩, hk⟩
  replace hs := bk hk ct0 rfl
  refine ⟨hs.keep, ?_⟩
  obtain ⟨hk, bk⟩ := hs.call tk0 (.c (qB d3) .n)
  refine aO1 3 rfl (o_call H (fun _ m => order_Right.calls m hk) ?_)
  rintro t50 v51 h H ⟨I, _, ⟨_, rfl, rfl⟩, hk⟩
  replace hs := bk hk ct1 rfl
  refine ⟨hs.keep, ?_⟩
  refine aRun [4] 0 hs.keep ?_
  replace hs := hs.pk (.c d0 .n)
  replace hs := bk0 hs ct1 rfl
  refine aEnd ?_
  refine st 1 [] ?_
  obtain ⟨j58, e65, H⟩ := letJ_some H
  refine k_joinT (fun T ρ h => ∃ (x57 : Bool), ∃ v56 I, j58 x57 = some s32 ∧ Fits [(1, iv x1), (2, .slice a25 x2.length p26), (3, pv b29), (6, pv b30), (9, iv x31), (11, v56), (15, .slice a25 x2.length p26), (16, iv (x2.length : Int)), (17, iv x31), (27, .bool x57)] ρ ∧ St E (rE .i v56 t50 :: T) I h) hs tl1 ?_ ?_
  ·rcases (hs.er d0).cases with ⟨c53, rfl⟩ | ⟨c53, t54, u55, rfl⟩
   ·rw [if_pos c53] at H
    exact st 4 [] (k_end ⟨false, .nilIface, I, H, ft, hs.pk (.c d0 pk0)⟩)
   rw [if_neg c53] at H
   exact st 4 [] (k_end ⟨true, (.iface t54 u55), I, H, ft, hs.pk (.c d0 pk0)⟩)
  clear H
  rintro ρ h ⟨x57, v56, I, H, hf, hs⟩
  refine k_fits _ hf ?_ rfl
  subst e65
  try dsimp only at H
  cases x57
  ·rw [cond_false] at H
   exact st 7 [false] (k_endL ⟨k, Nat.lt_succ_self _, (w64 (x31 + 1)), I, H, ft, hs.pk pk3⟩)
  rw [cond_true] at H
  refine st 3 [true] (k_op (lN (hs.bl d4) 0 6 ?_))
  rcases (hs.er d0).cases with ⟨c59, rfl⟩ | ⟨c59, t60, u61, rfl⟩
  ·refine st 4 [] (k_op (nB hs [iv x31, .nilIface] ?_))
   intro b62 h hs
   have q63 := (hs.er d1)
   obtain ⟨I, hs⟩ := hs.fS q63
   refine st 1 [] (k_op (sN0 (hs.f d4) [iv x0.Rows, iv x0.Cols, .slice a21 x0.Cells.length p22, iv x0.Cursor, .bool x0.Locked, .bool x0.Insert] (ones_of rfl) ?_))
   intro h hs
   refine st 3 [] (k_retQ (krL ?_))
   obtain rfl := si H
   obtain rfl := Option.some.inj HR33
   exact ⟨[.agg #[iv x0.Rows, iv x0.Cols, .slice a21 x0.Cells.length p22, iv x0.Cursor, .bool x0.Locked, .bool x0.Insert], iv x1, (.iface 202 (pv b62))], (.cons (.agg (by kernel_rfl) (by kernel_rfl) (by kernel_rfl) ((hs.bl d0).seg_ 0 6 (Nat.le_of_ble_eq_true rfl))) (.cons (.tmp (by kernel_rfl)) (.cons (.tmp (by kernel_rfl)) .nil))), I, _, ⟨a21, p22, x0.Cells.length, ((.iface 202 (pv b62))), rfl, rfl⟩, hs.pk (.c d6 (.c d1 .n))⟩
  refine st 4 [] (k_op (nB hs [iv x31, (.iface t60 u61)] ?_))
  intro b62 h hs
  have q63 := (hs.er d1)
  obtain ⟨I, hs⟩ := hs.fS q63
  refine st 1 [] (k_op (sN0 (hs.f d4) [iv x0.Rows, iv x0.Cols, .slice a21 x0.Cells.length p22, iv x0.Cursor, .bool x0.Locked, .bool x0.Insert] (ones_of rfl) ?_))
  intro h hs
  refine st 3 [] (k_retQ (krL ?_))
  obtain rfl := si H
  obtain rfl := Option.some.inj HR33
  exact ⟨[.agg #[iv x0.Rows, iv x0.Cols, .slice a21 x0.Cells.length p22, iv x0.Cursor, .bool x0.Locked, .bool x0.Insert], iv x1, (.iface 202 (pv b62))], (.cons (.agg (by kernel_rfl) (by kernel_rfl) (by kernel_rfl) ((hs.bl d0).seg_ 0 6 (Nat.le_of_ble_eq_true rfl))) (.cons (.tmp (by kernel_rfl)) (.cons (.tmp (by kernel_rfl)) .nil))), I, _, ⟨a21, p22, x0.Cells.length, ((.iface 202 (pv b62))), rfl, rfl⟩, hs.pk (.c d6 (.c d1 .n))⟩
def host_unlocked.m (x0 : api_Screen) : Option api_Screen :=
  (some (⟨x0.Rows, x0.Cols, x0.Cells, x0.Cursor, false, false⟩ : api_Screen))
theorem host_unlocked.calls {B I : Gh} {h : Heap} {x0 : api_Screen} {a21 : Option Addr} {p22 : Nat} {n23 : Nat} {r : api_Screen} (H : host_unlocked.m x0 = some r)  :
    Fc Tryz.prog 240 #[.agg #[iv x0.Rows, iv x0.Cols, .slice a21 n23 p22, iv x0.Cursor, .bool x0.Locked, .bool x0.Insert]] [rR t_api_Cell .i a21 p22 n23 x0.Cells] B I h (fun v L => ∃ a27 p28 n29, v = .agg #[iv r.Rows, iv r.Cols, .slice a27 n29 p28, iv r.Cursor, .bool r.Locked, .bool r.Insert] ∧ L = [rR t_api_Cell .i a27 p28 n29 r.Cells]) := by
 refine fc_of fun E hs => ?_
 unfold host_unlocked.m at H
 cases hs.nR d0
 refine fn_of2 (rs := [.cell 2 56]) (N := 6) Tryz.func240 rfl rfl rfl rfl ?_
 refine st 2 [] (k_op (nB hs [iv x0.Rows, iv x0.Cols, .slice a21 x0.Cells.length p22, iv x0.Cursor, .bool x0.Locked, .bool x0.Insert] ?_))
 intro b25 h hs
 refine k_op (nA hs [iv 0, iv 0, .slice none 0 0, iv 0, .bool false, .bool false] (.agg #[iv 0, iv 0, .slice none 0 0, iv 0, .bool false, .bool false]) ?_)
 intro b26 h hs
 refine st 4 [] (k_op (sB (v := .bool false) (hs.f d1) cw4 ?_))
 intro h hs
 refine st 1 [] (k_op (sB (v := .bool false) hs cw5 ?_))
 intro h hs
 refine st 3 [] (k_op (lN (hs.bl d0) 0 6 ?_))
 refine k_op (sN0 (hs.f d1) [iv x0.Rows, iv x0.Cols, .slice a21 x0.Cells.length p22, iv x0.Cursor, .bool false, .bool false] (ones_of rfl) ?_)
 intro h hs
 obtain rfl := si H
 exact st 1 [] (k_retQ ⟨[.agg #[iv x0.Rows, iv x0.Cols, .slice a21 x0.Cells.length p22, iv x0.Cursor, .bool false, .bool false]], (.cons (.agg (by kernel_rfl) (by kernel_rfl) (by kernel_rfl) ((hs.bl d0).seg_ 0 6 (Nat.le_of_ble_eq_true rfl))) .nil), I, _, ⟨a21, p22, x0.Cells.length, rfl, rfl⟩, hs.pk (.c d2 .n)⟩)
def host_clean.l1.m (K : Nat) (x0 : api_Screen) : Nat → Int → (List api_Cell) → Option ((List api_Cell))
  | 0, _, _ => none
  | k + 1, x33, x34 => (letJ (α := Bool → Option ((List api_Cell))) (fun (x48 : Bool) => (bif x48 then ((field_Open.m K x0 x33).bind fun t50 => bif t50 then (if 0 ≤ x33 then (if x33 < (x34.length : Int) then (host_clean.l1.m K x0 k (w64 (x33 + 1)) (x34.set x33.toNat (⟨(at_ x34 x33).Field, ((at_ x34 x33).Attr), 0⟩ : api_Cell))) else none) else none) else (host_clean.l1.m K x0 k (w64 (x33 + 1)) x34)) else (some (x34)))) fun (j49 : Bool → Option ((List api_Cell))) => (if x33 < (x0.Cells.length : Int) then (j49 true) else (j49 false)))
def host_clean.m (K : Nat) (x0 : api_Screen) : Option api_Screen :=
  ((host_Reset.m K x0 false).bind fun t27 => ((host_clean.l1.m K x0 K 0 t27.Cells).bind fun x40 => ((field_Next.m K x0 (w64 ((x0.Cells.length : Int) - 1))).bind fun t57 => (some (⟨t27.Rows, t27.Cols, x40, (mx 0 t57), t27.Locked, t27.Insert⟩ : api_Screen)))))
theorem host_clean.calls {B I : Gh} {h : Heap} {K : Nat} {x0 : api_Screen} {a21 : Option Addr} {p22 : Nat} {n23 : Nat} {r : api_Screen} (H : host_clean.m K x0 = some r)  :
    Fc Tryz.prog 241 #[.agg #[iv x0.Rows, iv x0.Cols, .slice a21 n23 p22, iv x0.Cursor, .bool x0.Locked, .bool x0.Insert]] [rR t_api_Cell .b a21 p22 n23 x0.Cells] B I h (fun v L => ∃ a58 p59 n60, v = .agg #[iv r.Rows, iv r.Cols, .slice a58 n60 p59, iv r.Cursor, .bool r.Locked, .bool r.Insert] ∧ L = [rO t_api_Cell .i a58 p59 n60 r.Cells]) := by
 refine fc_of fun E hs => ?_
 unfold host_clean.m at H
 cases hs.nR d0
 refine fn_of2 (rs := [.cell 2 56]) (N := 31) Tryz.func241 rfl rfl rfl rfl ?_
 refine st 2 [] (k_op (nB hs [iv x0.Rows, iv x0.Cols, .slice a21 x0.Cells.length p22, iv x0.Cursor, .bool x0.Locked, .bool x0.Insert] ?_))
 intro b25 h hs
 refine k_op (nA hs [iv 0, iv 0, .slice none 0 0, iv 0, .bool false, .bool false] (.agg #[iv 0, iv 0, .slice none 0 0, iv 0, .bool false, .bool false]) ?_)
 intro b26 h hs
 refine st 3 [] (k_op (lN (hs.bl d1) 0 6 ?_))
 obtain ⟨hk, bk⟩ := hs.call tk0 (.c (qB d2) .n)
 refine k_call H (fun _ m => host_Reset.calls m hk) ?_
 rintro t27 _ h H ⟨I, _, ⟨a28, p29, n30, rfl, rfl⟩, hk⟩
 replace hs := bk hk ct1 rfl
 cases hs.nO d0
 refine k_op (nA hs [iv 0, iv 0, .slice none 0 0, iv 0, .bool false, .bool false] (.agg #[iv 0, iv 0, .slice none 0 0, iv 0, .bool false, .bool false]) ?_)
 intro b32 h hs
 refine k_op (sN0 hs [iv t27.Rows, iv t27.Cols, .slice a28 t27.Cells.length p29, iv t27.Cursor, .bool t27.Locked, .bool t27.Insert] (ones_of rfl) ?_)
 intro h hs
 refine st 5 [] (k_op (lB (hs.bl d3) 2 rfl ?_))
 refine st 4 [] ?_
 obtain ⟨s39, m46, HR45⟩ := bind_some H
 refine k_loopT hs tl2 0 (fun T k' ρ h => ∃ (x33 : Int) (x34 : List api_Cell), ∃ a35 p36 n37 I, host_clean.l1.m K x0 k' x33 x34 = some s39 ∧ Fits [(1, pv b25), (2, pv b26), (3, pv b32), (9, iv (x0.Cells.length : Int)), (10, iv x33)] ρ ∧ St E (rO t_api_Cell .i a35 p36 n37 x34 :: rB b32 [iv t27.Rows, iv t27.Cols, .slice a35 n37 p36, iv t27.Cursor, .bool t27.Locked, .bool t27.Insert] 56 :: T) I h) (fun T ρ h => ∃ (x40 : List api_Cell), ∃ a41 p42 n43 I, x40 = s39 ∧ Fits [(1, pv b25), (2, pv b26), (3, pv b32)] ρ ∧ St E (rO t_api_Cell .i a41 p42 n43 x40 :: rB b32 [iv t27.Rows, iv t27.Cols, .slice a41 n43 p42, iv t27.Cursor, .bool t27.Locked, .bool t27.Insert] 56 :: T) I h) K ⟨0, t27.Cells, a28, p29, t27.Cells.length, I, m46, ft, hs.pk (.c d1 (.c d0 pk0))⟩ ?_ rfl ?_
 rotate_left
 ·rintro ρ h ⟨x40, a41, p42, n43, I, rfl, hf, hs⟩
  have H := HR45
  try dsimp only at H
  refine k_fits _ hf ?_ rfl
  cases hs.nO d0
  refine st 2 [] (k_op (lN (hs.bl d3) 0 6 ?_))
  refine st 1 [] (k_op (lB (hs.bl d3) 2 rfl ?_))
  obtain ⟨hk, bk⟩ := hs.call tk0 (.c (qB d4) .n)
  refine st 2 [] (k_call H (fun _ m => field_Next.calls m hk) ?_)
  rintro t57 _ h H ⟨I, _, ⟨rfl, rfl⟩, hk⟩
  replace hs := bk hk ct0 rfl
  refine st 2 [] (k_op (sB (v := iv (mx 0 t57)) (hs.f d1) cw3 ?_))
  intro h hs
  refine st 3 [] (k_op (lN (hs.bl d0) 0 6 ?_))
  refine k_op (sN0 (hs.f d2) [iv t27.Rows, iv t27.Cols, .slice a41 x40.length p42, iv (mx 0 t57), .bool t27.Locked, .bool t27.Insert] (ones_of rfl) ?_)
  intro h hs
  obtain rfl := si H
  exact st 1 [] (k_retQ ⟨[.agg #[iv t27.Rows, iv t27.Cols, .slice a41 x40.length p42, iv (mx 0 t57), .bool t27.Locked, .bool t27.Insert]], (.cons (.agg (by kernel_rfl) (by kernel_rfl) (by kernel_rfl) ((hs.bl d0).seg_ 0 6 (Nat.le_of_ble_eq_true rfl))) .nil), I, _, ⟨a41, p42, x40.length, rfl, rfl⟩, hs.pk (.c d2 .n)⟩)
 clear HR45 m46 H
 rintro k' ρ h ⟨x33, x34, a35, p36, n37, I, H, hf, hs⟩
 cases k' with
 | zero => cases H
 | succ k =>
  rw [host_clean.l1.m] at H
  refine k_fits _ hf ?_ rfl
  cases hs.nO d0
  refine st 1 [] ?_
  obtain ⟨j49, e56, H⟩ := letJ_some H
  refine k_joinT (fun T ρ h => ∃ (x48 : Bool), ∃ I, j49 x48 = some s39 ∧ Fits [(1, pv b25), (2, pv b26), (3, pv b32), (9, iv (x0.Cells.length : Int)), (10, iv x33), (11, .bool x48)] ρ ∧ St E T I h) hs tl0 ?_ ?_
  ·refine st 1 [] (k_ite H (fun c47 H => ?_) (fun c47 H => ?_))
   ·exact st 1 [] (k_end ⟨true, I, H, ft, hs⟩)
   exact st 1 [] (k_end ⟨false, I, H, ft, hs⟩)
  clear H
  rintro ρ h ⟨x48, I, H, hf, hs⟩
  refine k_fits _ hf ?_ rfl
  subst e56
  try dsimp only at H
  cases x48
  ·rw [cond_false] at H
   refine st 2 [false] (k_out rfl ?_)
   obtain rfl := si H
   exact xE ⟨x34, a35, p36, x34.length, I, rfl, ft, hs.pk (.c d0 (.c d0 pk0))⟩
  rw [cond_true] at H
  refine st 12 [true] (k_op (lN (hs.bl d3) 0 6 ?_))
  obtain ⟨hk, bk⟩ := hs.call tk0 (.c (qB d4) .n)
  refine st 1 [] (k_call H (fun _ m => field_Open.calls m hk) ?_)
  rintro t50 _ h H ⟨I, _, ⟨rfl, rfl⟩, hk⟩
  replace hs := bk hk ct0 rfl
  cases t50
  ·rw [cond_false] at H
   exact st 8 [false] (k_endL ⟨k, Nat.lt_succ_self _, (w64 (x33 + 1)), x34, a35, p36, x34.length, I, H, ft, hs.pk (.c d0 (.c d0 pk0))⟩)
  rw [cond_true] at H
  refine st 4 [true] (k_op (lB (hs.bl d1) 2 rfl ?_))
  obtain ⟨c51, H⟩ := guard_pos H
  obtain ⟨c52, H⟩ := guard_pos H
  refine st 1 [] (k_val (elemPtr a35 (x33.toNat * 6)) (pI (e := 89) (ik := .i64) (hs.sO d0) c51 c52) ?_)
  refine k_val (elemPtr a35 (x33.toNat * 6 + 5)) (pF (off := 5) (hs.sO d0) c51 c52) ?_
  obtain ⟨y54, g53, q55⟩ := (hs.sO d0).toSl.seg c51 c52
  obtain rfl := t_api_Cell.open_ q55
  refine k_op (sE hs 5 [.int .u8 0] (⟨(at_ x34 x33).Field, ((at_ x34 x33).Attr), 0⟩ : api_Cell) c51 c52 g53 (ones_of rfl) rfl ?_)
  intro h hs
  exact st 6 [] (k_endL ⟨k, Nat.lt_succ_self _, (w64 (x33 + 1)), (x34.set x33.toNat (⟨(at_ x34 x33).Field, ((at_ x34 x33).Attr), 0⟩ : api_Cell)), a35, p36, x34.length, I, H, ft, hs.pk (.c d0 (.c d0 pk0))⟩)
def host_Do.m (K : Nat) (x0 : api_Screen) (x1 : api_Out) : Option (api_Screen × GoErr) :=
  ((grid_Size.m x0).bind fun t32 => ((stream_Write.m K x1 t32).bind fun t33 => (if t33.2 = GoErr.nil then ((grid_Copy.m x0).bind fun t43 => (letJ (α := (List api_Cell) → Int → Option (api_Screen × GoErr)) (fun (x52 : List api_Cell) (x57 : Int) => (letJ (α := Int → Int → (List api_Cell) → Int → Bool → Bool → Option (api_Screen × GoErr)) (fun (x65 : Int) (x66 : Int) (x67 : List api_Cell) (x72 : Int) (x73 : Bool) (x74 : Bool) => ((paint_All.m K (⟨x65, x66, x67, x72, x73, x74⟩ : api_Screen) x72 x1.Orders).bind fun t76 => (if t76.2.2 = GoErr.nil then (bif x1.Wcc.Unlock then ((host_unlocked.m t76.1).bind fun t88 => (some (t88, GoErr.nil))) else (some (t76.1, GoErr.nil))) else (some (x0, t76.2.2))))) fun (j75 : Int → Int → (List api_Cell) → Int → Bool → Bool → Option (api_Screen × GoErr)) => (bif x1.Wcc.Reset then ((host_Reset.m K (⟨t43.Rows, t43.Cols, x52, x57, t43.Locked, t43.Insert⟩ : api_Screen) true).bind fun t60 => (j75 t60.Rows t60.Cols t60.Cells t60.Cursor t60.Locked t60.Insert)) else (j75 t43.Rows t43.Cols x52 x57 t43.Locked t43.Insert)))) fun (j58 : (List api_Cell) → Int → Option (api_Screen × GoErr)) => (if x1.Cmd = 245 then (j58 (List.replicate t43.Cells.length (⟨false, (⟨false, false, 0, false⟩ : api_Attr), 0⟩ : api_Cell)) 0) else (if x1.Cmd = 241 then (j58 t43.Cells t43.Cursor) else (if x1.Cmd = 111 then ((host_clean.m K t43).bind fun t52 => ((host_unlocked.m t52).bind fun t57 => (some (t57, GoErr.nil)))) else (some (t43, GoErr.nil))))))) else (some (x0, t33.2)))))
theorem host_Do.calls {B I : Gh} {h : Heap} {K : Nat} {x0 : api_Screen} {x1 : api_Out} {a21 : Option Addr} {p22 : Nat} {n23 : Nat} {a25 : Option Addr} {p26 : Nat} {n27 : Nat} {r : (api_Screen × GoErr)} (H : host_Do.m K x0 x1 = some r)  :
    Fc Tryz.prog 194 #[.agg #[iv x0.Rows, iv x0.Cols, .slice a21 n23 p22, iv x0.Cursor, .bool x0.Locked, .bool x0.Insert], .agg #[iv x1.Cmd, .bool x1.Wcc.Alarm, .bool x1.Wcc.Unlock, .bool x1.Wcc.Reset, .slice a25 n27 p26]] [rR t_api_Cell .i a21 p22 n23 x0.Cells, rR t_api_Order .b a25 p26 n27 x1.Orders] B I h (fun v L => ∃ a95 p96 n97 v99, v = .tuple #[.agg #[iv r.1.Rows, iv r.1.Cols, .slice a95 n97 p96, iv r.1.Cursor, .bool r.1.Locked, .bool r.1.Insert], v99] ∧ L = [rR t_api_Cell .i a95 p96 n97 r.1.Cells, rE .i v99 r.2]) := by
 refine fc_of fun E hs => ?_
 unfold host_Do.m at H
 cases hs.nR d0
 cases hs.nR d1
 refine fn_of2 (rs := [.cell 4 56, .tmp 5]) (N := 65) Tryz.func194 rfl rfl rfl rfl ?_
 refine st 2 [] (k_op (nB hs [iv x0.Rows, iv x0.Cols, .slice a21 x0.Cells.length p22, iv x0.Cursor, .bool x0.Locked, .bool x0.Insert] ?_))
 intro b29 h hs
 refine k_op (nB hs [iv x1.Cmd, .bool x1.Wcc.Alarm, .bool x1.Wcc.Unlock, .bool x1.Wcc.Reset, .slice a25 x1.Orders.length p26] ?_)
 intro b30 h hs
 refine k_op (nA hs [iv 0, iv 0, .slice none 0 0, iv 0, .bool false, .bool false] (.agg #[iv 0, iv 0, .slice none 0 0, iv 0, .bool false, .bool false]) ?_)
 intro b31 h hs
 refine st 4 [] ?_
 obtain ⟨hs0, bk0⟩ := hs.call tk0 (.c (qL d1) (.c (qL d2) (.c (qK d3) (.c (qB d4) .n))))
 have hs := hs0
 refine k_regD hs0 9 ?_
 refine aG 0 rfl hs.keep (lls hs0 d0 0 5 rfl) (nmL hs0 d0) ?_
 refine aG 1 rfl hs.keep (lls hs0 d1 0 6 rfl) (nmL hs0 d1) ?_
 obtain ⟨hk, bk⟩ := hs.call tk0 (.c (qI d2) .n)
 refine aO1 2 rfl (o_call H (fun _ m => grid_Size.calls m hk) ?_)
 rintro t32 _ h H ⟨I, _, ⟨rfl, rfl⟩, hk⟩
 replace hs := bk hk ct0 rfl
 refine ⟨hs.keep, ?_⟩
 obtain ⟨hk, bk⟩ := hs.call tk0 (.c (qB d3) .n)
 refine aO1 3 rfl (o_call H (fun _ m => stream_Write.calls m hk) ?_)
 rintro t33 _ h H ⟨I, _, ⟨a34, p35, n36, v38, rfl, rfl⟩, hk⟩
 replace hs := bk hk ct2 rfl
 cases hs.nO d0
 refine ⟨hs.keep, ?_⟩
 refine aRun [4, 5, 6, 7, 8] 0 hs.keep ?_
 replace hs := hs.pk (.c d0 (.c d0 .n))
 replace hs := bk0 hs ct2 rfl
 refine aEnd ?_
 rcases (hs.er d1).cases with ⟨c40, rfl⟩ | ⟨c40, t41, u42, rfl⟩
 rotate_left
 ·rw [if_neg c40] at H
  refine st 8 [true] (k_op (lN (hs.bl d4) 0 6 ?_))
  refine st 1 [] (k_op (sN0 (hs.f d2) [iv x0.Rows, iv x0.Cols, .slice a21 x0.Cells.length p22, iv x0.Cursor, .bool x0.Locked, .bool x0.Insert] (ones_of rfl) ?_))
  intro h hs
  obtain rfl := si H
  exact st 2 [] (k_retQ ⟨[.agg #[iv x0.Rows, iv x0.Cols, .slice a21 x0.Cells.length p22, iv x0.Cursor, .bool x0.Locked, .bool x0.Insert], (.iface t41 u42)], (.cons (.agg (by kernel_rfl) (by kernel_rfl) (by kernel_rfl) ((hs.bl d0).seg_ 0 6 (Nat.le_of_ble_eq_true rfl))) (.cons (.tmp (by kernel_rfl)) .nil)), I, _, ⟨a21, p22, x0.Cells.length, ((.iface t41 u42)), rfl, rfl⟩, hs.pk (.c d5 (.c d2 .n))⟩)
 rw [if_pos c40] at H
 refine st 9 [false] (k_op (lN (hs.bl d4) 0 6 ?_))
 obtain ⟨hk, bk⟩ := hs.call tk0 (.c (qI d5) .n)
 refine k_call H (fun _ m => grid_Copy.calls m hk) ?_
 rintro t43 _ h H ⟨I, _, ⟨a44, p45, n46, rfl, rfl⟩, hk⟩
 replace hs := bk hk ct1 rfl
 cases hs.nO d0
 refine k_op (nA hs [iv 0, iv 0, .slice none 0 0, iv 0, .bool false, .bool false] (.agg #[iv 0, iv 0, .slice none 0 0, iv 0, .bool false, .bool false]) ?_)
 intro b48 h hs
 refine k_op (sN0 hs [iv t43.Rows, iv t43.Cols, .slice a44 t43.Cells.length p45, iv t43.Cursor, .bool t43.Locked, .bool t43.Insert] (ones_of rfl) ?_)
 intro h hs
 refine st 5 [] (k_op (lB (hs.bl d5) 0 rfl ?_))
 refine st 5 [] ?_
 obtain ⟨j58, e94, H⟩ := letJ_some H
 refine k_joinT (fun T ρ h => ∃ (x52 : List api_Cell) (x57 : Int), ∃ a53 p54 n55 I, j58 x52 x57 = some r ∧ Fits [(2, pv b29), (3, pv b30), (4, pv b31), (8, pv b48)] ρ ∧ St E (rO t_api_Cell .i a53 p54 n55 x52 :: rB b48 [iv t43.Rows, iv t43.Cols, .slice a53 n55 p54, iv x57, .bool t43.Locked, .bool t43.Insert] 56 :: T) I h) hs tl2 ?_ ?_
 ·refine st 7 [] (k_ite H (fun c49 H => ?_) (fun c49 H => ?_))
  ·refine st 7 [true] (k_op (lB (hs.bl d0) 2 rfl ?_))
   replace hs := (hs.f d1)
   refine k_op (clO (e := 89) hs (⟨false, (⟨false, false, 0, false⟩ : api_Attr), 0⟩ : api_Cell) (.agg #[.bool false, .bool false, .bool false, iv 0, .bool false, .int .u8 0]) (fun _ _ => rfl) ?_)
   intro h hs
   refine st 3 [] (k_op (sB (v := iv 0) (hs.f d1) cw3 ?_))
   intro h hs
   exact st 2 [] (k_end ⟨(List.replicate t43.Cells.length (⟨false, (⟨false, false, 0, false⟩ : api_Attr), 0⟩ : api_Cell)), 0, a44, p45, t43.Cells.length, I, H, ft, hs.pk (.c d1 (.c d0 pk0))⟩)
  refine st 7 [false] (k_ite H (fun c50 H => ?_) (fun c50 H => ?_))
  ·exact st 4 [true] (k_end ⟨t43.Cells, t43.Cursor, a44, p45, t43.Cells.length, I, H, ft, hs.pk (.c d1 (.c d0 pk0))⟩)
  refine st 6 [false] (k_ite H (fun c51 H => ?_) (fun c51 H => ?_))
  rotate_left
  ·refine st 4 [false] (k_out rfl ?_)
   refine xJ (q_in rfl ?_)
   refine st 2 [] (k_op (lN (hs.bl d0) 0 6 ?_))
   refine k_op (sN0 (hs.f d4) [iv t43.Rows, iv t43.Cols, .slice a44 t43.Cells.length p45, iv t43.Cursor, .bool t43.Locked, .bool t43.Insert] (ones_of rfl) ?_)
   intro h hs
   obtain rfl := si H
   obtain ⟨I, hs⟩ := (hs.f d2).fO
   exact st 2 [] (k_retQ ⟨[.agg #[iv t43.Rows, iv t43.Cols, .slice a44 t43.Cells.length p45, iv t43.Cursor, .bool t43.Locked, .bool t43.Insert], .nilIface], (.cons (.agg (by kernel_rfl) (by kernel_rfl) (by kernel_rfl) ((hs.bl d1).seg_ 0 6 (Nat.le_of_ble_eq_true rfl))) (.cons (.tmp (by kernel_rfl)) .nil)), I, _, ⟨a44, p45, t43.Cells.length, (.nilIface), rfl, rfl⟩, hs.pk (.c d0 (.f imEN .n))⟩)
  refine st 3 [true] (k_out rfl ?_)
  refine xJ (q_in rfl ?_)
  refine st 2 [] (k_op (lN (hs.bl d0) 0 6 ?_))
  obtain ⟨hk, bk⟩ := hs.call tk0 (.c (qO d1) .n)
  refine k_call H (fun _ m => host_clean.calls m hk) ?_
  rintro t52 _ h H ⟨I, _, ⟨a53, p54, n55, rfl, rfl⟩, hk⟩
  replace hs := bk hk ct1 rfl
  cases hs.nO d0
  obtain ⟨I, hs⟩ := hs.fO
  obtain ⟨hk, bk⟩ := hs.call tk0 (.c (qK d0) .n)
  refine k_call H (fun _ m => host_unlocked.calls m hk) ?_
  rintro t57 _ h H ⟨I, _, ⟨a58, p59, n60, rfl, rfl⟩, hk⟩
  replace hs := bk hk ct1 rfl
  cases hs.nR d0
  refine k_op (sN0 (hs.f d2) [iv t57.Rows, iv t57.Cols, .slice a58 t57.Cells.length p59, iv t57.Cursor, .bool t57.Locked, .bool t57.Insert] (ones_of rfl) ?_)
  intro h hs
  refine st 4 [] (k_op (lN (hs.bl d0) 0 6 ?_))
  refine k_op (sN0 (hs.f d6) [iv t57.Rows, iv t57.Cols, .slice a58 t57.Cells.length p59, iv t57.Cursor, .bool t57.Locked, .bool t57.Insert] (ones_of rfl) ?_)
  intro h hs
  obtain rfl := si H
  exact st 2 [] (k_retQ ⟨[.agg #[iv t57.Rows, iv t57.Cols, .slice a58 t57.Cells.length p59, iv t57.Cursor, .bool t57.Locked, .bool t57.Insert], .nilIface], (.cons (.agg (by kernel_rfl) (by kernel_rfl) (by kernel_rfl) ((hs.bl d0).seg_ 0 6 (Nat.le_of_ble_eq_true rfl))) (.cons (.tmp (by kernel_rfl)) .nil)), I, _, ⟨a58, p59, t57.Cells.length, (.nilIface), rfl, rfl⟩, hs.pk (.c d2 (.f imEN .n))⟩)
 clear H
 rintro ρ h ⟨x52, x57, a53, p54, n55, I, H, hf, hs⟩
 refine k_fits _ hf ?_ rfl
 subst e94
 try dsimp only at H
 cases hs.nO d0
 refine st 2 [] ?_
 obtain ⟨j75, e93, H⟩ := letJ_some H
 refine k_joinT (fun T ρ h => ∃ (x65 : Int) (x66 : Int) (x67 : List api_Cell) (x72 : Int) (x73 : Bool) (x74 : Bool), ∃ a68 p69 n70 I, j75 x65 x66 x67 x72 x73 x74 = some r ∧ Fits [(2, pv b29), (3, pv b30), (4, pv b31), (8, pv b48)] ρ ∧ St E (rO t_api_Cell .i a68 p69 n70 x67 :: rB b48 [iv x65, iv x66, .slice a68 n70 p69, iv x72, .bool x73, .bool x74] 56 :: T) I h) hs tl2 ?_ ?_
 ·refine st 4 [] (k_op (lB (hs.bl d5) 3 rfl ?_))
  refine k_spl H (fun c59 H => ?_) (fun c59 H => ?_)
  rotate_left
  ·exact st 3 [false] (k_end ⟨t43.Rows, t43.Cols, x52, x57, t43.Locked, t43.Insert, a53, p54, x52.length, I, H, ft, hs.pk (.c d0 (.c d0 pk0))⟩)
  refine st 3 [true] (k_op (lN (hs.bl d1) 0 6 ?_))
  obtain ⟨hk, bk⟩ := hs.call tk0 (.c (qO d0) .n)
  refine k_call H (fun _ m => host_Reset.calls m hk) ?_
  rintro t60 _ h H ⟨I, _, ⟨a61, p62, n63, rfl, rfl⟩, hk⟩
  replace hs := bk hk ct1 rfl
  cases hs.nO d0
  refine k_op (sN0 (hs.f d2) [iv t60.Rows, iv t60.Cols, .slice a61 t60.Cells.length p62, iv t60.Cursor, .bool t60.Locked, .bool t60.Insert] (ones_of rfl) ?_)
  intro h hs
  exact st 1 [] (k_end ⟨t60.Rows, t60.Cols, t60.Cells, t60.Cursor, t60.Locked, t60.Insert, a61, p62, t60.Cells.length, I, H, ft, hs.pk (.c d1 (.c d0 pk1))⟩)
 clear H
 rintro ρ h ⟨x65, x66, x67, x72, x73, x74, a68, p69, n70, I, H, hf, hs⟩
 refine k_fits _ hf ?_ rfl
 subst e93
 try dsimp only at H
 cases hs.nO d0
 refine st 2 [] (k_op (lN (hs.bl d1) 0 6 ?_))
 refine st 1 [] (k_op (lB (hs.bl d1) 3 rfl ?_))
 refine st 1 [] (k_op (lB (hs.bl d5) 4 rfl ?_))
 obtain ⟨I, hs⟩ := hs.fO
 obtain ⟨hk, bk⟩ := hs.call tk0 (.c (qK d0) (.c (qB d8) .n))
 refine k_call H (fun _ m => paint_All.calls m hk) ?_
 rintro t76 _ h H ⟨I, _, ⟨a77, p78, n79, v81, rfl, rfl⟩, hk⟩
 replace hs := bk hk ct2 rfl
 cases hs.nR d0
 refine st 4 [] (k_op (nA hs [iv 0, iv 0, .slice none 0 0, iv 0, .bool false, .bool false] (.agg #[iv 0, iv 0, .slice none 0 0, iv 0, .bool false, .bool false]) ?_))
 intro b83 h hs
 refine k_op (sN0 hs [iv t76.1.Rows, iv t76.1.Cols, .slice a77 t76.1.Cells.length p78, iv t76.1.Cursor, .bool t76.1.Locked, .bool t76.1.Insert] (ones_of rfl) ?_)
 intro h hs
 rcases (hs.er d2).cases with ⟨c84, rfl⟩ | ⟨c84, t85, u86, rfl⟩
 rotate_left
 ·rw [if_neg c84] at H
  refine st 12 [true] (k_op (lN (hs.bl d9) 0 6 ?_))
  refine st 1 [] (k_op (sN0 (hs.f d7) [iv x0.Rows, iv x0.Cols, .slice a21 x0.Cells.length p22, iv x0.Cursor, .bool x0.Locked, .bool x0.Insert] (ones_of rfl) ?_))
  intro h hs
  obtain rfl := si H
  exact st 2 [] (k_retQ ⟨[.agg #[iv x0.Rows, iv x0.Cols, .slice a21 x0.Cells.length p22, iv x0.Cursor, .bool x0.Locked, .bool x0.Insert], (.iface t85 u86)], (.cons (.agg (by kernel_rfl) (by kernel_rfl) (by kernel_rfl) ((hs.bl d0).seg_ 0 6 (Nat.le_of_ble_eq_true rfl))) (.cons (.tmp (by kernel_rfl)) .nil)), I, _, ⟨a21, p22, x0.Cells.length, ((.iface t85 u86)), rfl, rfl⟩, hs.pk (.c d10 (.c d3 .n))⟩)
 rw [if_pos c84] at H
 refine st 13 [false] (k_op (lN (hs.bl d0) 0 6 ?_))
 refine k_op (sN0 (hs.f d4) [iv t76.1.Rows, iv t76.1.Cols, .slice a77 t76.1.Cells.length p78, iv t76.1.Cursor, .bool t76.1.Locked, .bool t76.1.Insert] (ones_of rfl) ?_)
 intro h hs
 refine st 5 [] (k_op (lB (hs.bl d8) 2 rfl ?_))
 refine k_spl H (fun c87 H => ?_) (fun c87 H => ?_)
 rotate_left
 ·refine st 6 [false] (k_op (lN (hs.bl d0) 0 6 ?_))
  refine k_op (sN0 (hs.f d7) [iv t76.1.Rows, iv t76.1.Cols, .slice a77 t76.1.Cells.length p78, iv t76.1.Cursor, .bool t76.1.Locked, .bool t76.1.Insert] (ones_of rfl) ?_)
  intro h hs
  obtain rfl := si H
  exact st 2 [] (k_retQ ⟨[.agg #[iv t76.1.Rows, iv t76.1.Cols, .slice a77 t76.1.Cells.length p78, iv t76.1.Cursor, .bool t76.1.Locked, .bool t76.1.Insert], .nilIface], (.cons (.agg (by kernel_rfl) (by kernel_rfl) (by kernel_rfl) ((hs.bl d0).seg_ 0 6 (Nat.le_of_ble_eq_true rfl))) (.cons (.tmp (by kernel_rfl)) .nil)), I, _, ⟨a77, p78, t76.1.Cells.length, (.nilIface), rfl, rfl⟩, hs.pk (.c d3 (.f imEN .n))⟩)
 refine st 3 [true] (k_op (lN (hs.bl d0) 0 6 ?_))
 obtain ⟨hk, bk⟩ := hs.call tk0 (.c (qK d2) .n)
 refine k_call H (fun _ m => host_unlocked.calls m hk) ?_
 rintro t88 _ h H ⟨I, _, ⟨a89, p90, n91, rfl, rfl⟩, hk⟩
 replace hs := bk hk ct1 rfl
 cases hs.nR d0
 refine k_op (sN0 (hs.f d1) [iv t88.Rows, iv t88.Cols, .slice a89 t88.Cells.length p90, iv t88.Cursor, .bool t88.Locked, .bool t88.Insert] (ones_of rfl) ?_)
 intro h hs
 refine st 4 [] (k_op (lN (hs.bl d0) 0 6 ?_))
 refine k_op (sN0 (hs.f d8) [iv t88.Rows, iv t88.Cols, .slice a89 t88.Cells.length p90, iv t88.Cursor, .bool t88.Locked, .bool t88.Insert] (ones_of rfl) ?_)
 intro h hs
 obtain rfl := si H
 exact st 2 [] (k_retQ ⟨[.agg #[iv t88.Rows, iv t88.Cols, .slice a89 t88.Cells.length p90, iv t88.Cursor, .bool t88.Locked, .bool t88.Insert], .nilIface], (.cons (.agg (by kernel_rfl) (by kernel_rfl) (by kernel_rfl) ((hs.bl d0).seg_ 0 6 (Nat.le_of_ble_eq_true rfl))) (.cons (.tmp (by kernel_rfl)) .nil)), I, _, ⟨a89, p90, t88.Cells.length, (.nilIface), rfl, rfl⟩, hs.pk (.c d2 (.f imEN .n))⟩)
def bytes_New.m (x0 : (List Int)) : Option bytes_Cursor :=
  ((slices_Clone_bytes.m x0).bind fun t25 => (some (⟨t25, 0, GoErr.nil⟩ : bytes_Cursor)))
theorem bytes_New.calls {B I : Gh} {h : Heap} {x0 : (List Int)} {a21 : Option Addr} {p22 : Nat} {n23 : Nat} {r : bytes_Cursor} (H : bytes_New.m x0 = some r)  :
    Fc Tryz.prog 55 #[.slice a21 n23 p22] [rR (tInt .u8) .b a21 p22 n23 x0] B I h (fun v L => ∃ b31 a32 p33 n34 v36, v = pv b31 ∧ L = [rB b31 [.slice a32 n34 p33, iv r.at', v36] 206, rR (tInt .u8) .i a32 p33 n34 r.b', rE .i v36 r.err']) := by
 refine fc_of fun E hs => ?_
 unfold bytes_New.m at H
 cases hs.nR d0
 refine fn_of (rs := [.tmp 2]) (N := 7) Tryz.func55 rfl rfl rfl rfl ?_
 obtain ⟨hk, bk⟩ := hs.call tk0 (.c (qB d0) .n)
 refine st 7 [] (k_call H (fun _ m => slices_Clone_bytes.calls m hk) ?_)
 rintro t25 _ h H ⟨I, _, ⟨a26, p27, n28, rfl, rfl⟩, hk⟩
 replace hs := bk hk ct1 rfl
 cases hs.nO d0
 refine st 1 [] (k_op (nB hs [.slice a26 t25.length p27, iv 0, .nilIface] ?_))
 intro b30 h hs
 obtain rfl := si H
 obtain ⟨I, hs⟩ := (hs.f d1).fO
 exact st 2 [] (k_retQ ⟨_, by kernel_rfl, I, _, ⟨b30, a26, p27, t25.length, (.nilIface), rfl, rfl⟩, hs.pk (.c d1 (.c d0 (.f imEN .n)))⟩)
def bytes_Cursor_Left.m (x0 : bytes_Cursor) : Option (Int × bytes_Cursor) :=
  (some ((w64 ((x0.b'.length : Int) - x0.at')), x0))
theorem bytes_Cursor_Left.calls {B I : Gh} {h : Heap} {x0 : bytes_Cursor} {b0 : Nat} {a21 : Option Addr} {p22 : Nat} {n23 : Nat} {v25 : Value} {r : (Int × bytes_Cursor)} (H : bytes_Cursor_Left.m x0 = some r)  :
    Fc Tryz.prog 58 #[pv b0] [rB b0 [.slice a21 n23 p22, iv x0.at', v25] 206, rR (tInt .u8) .i a21 p22 n23 x0.b'] B I h (fun v L => ∃ a26 p27 n28, v = iv r.1 ∧ L = [rB b0 [.slice a26 n28 p27, iv r.2.at', v25] 206, rR (tInt .u8) .i a26 p27 n28 r.2.b']) := by
 refine fc_of fun E hs => ?_
 unfold bytes_Cursor_Left.m at H
 cases hs.nR d1
 refine fn_of (rs := [.tmp 2]) (N := 13) Tryz.func58 rfl rfl rfl rfl ?_
 refine st 5 [] ?_
 obtain ⟨hs0, bk0⟩ := hs.call tk0 (.c (qL d0) .n)
 have hs := hs0
 refine k_regD hs0 11 ?_
 refine aRun [0, 1, 2] 8 hs.keep ?_
 refine aL 3 rfl hs.keep (ll hs0 d0 (n := 0) rfl) (nmL hs0 d0) ?_
 refine aRun [4, 5, 6, 7] 3 hs.keep ?_
 refine aL 8 rfl hs.keep (ll hs0 d0 (n := 1) rfl) (nmL hs0 d0) ?_
 refine aRun [9, 10] 0 hs.keep ?_
 replace hs := hs.pk .n
 replace hs := bk0 hs ct0 rfl
 refine aEnd ?_
 obtain rfl := si H
 exact k_retQ ⟨_, by kernel_rfl, I, _, ⟨a21, p22, x0.b'.length, rfl, rfl⟩, hs.pk (.c d0 (.c d0 .n))⟩
def bytes_Cursor_Peek.m (x0 : bytes_Cursor) : Option (Int × Bool × bytes_Cursor) :=
  (if x0.err' = GoErr.nil then ((bytes_Cursor_Left.m x0).bind fun t30 => (if t30.1 = 0 then (some (0, false, (⟨t30.2.b', t30.2.at', x0.err'⟩ : bytes_Cursor))) else (if 0 ≤ t30.2.at' then (if t30.2.at' < (t30.2.b'.length : Int) then (some ((at_ t30.2.b' t30.2.at'), true, (⟨t30.2.b', t30.2.at', x0.err'⟩ : bytes_Cursor))) else none) else none))) else (some (0, false, x0)))
theorem bytes_Cursor_Peek.calls {B I : Gh} {h : Heap} {x0 : bytes_Cursor} {b0 : Nat} {a21 : Option Addr} {p22 : Nat} {n23 : Nat} {v25 : Value} {r : (Int × Bool × bytes_Cursor)} (H : bytes_Cursor_Peek.m x0 = some r)  :
    Fc Tryz.prog 56 #[pv b0] [rB b0 [.slice a21 n23 p22, iv x0.at', v25] 206, rR (tInt .u8) .i a21 p22 n23 x0.b', rE .i v25 x0.err'] B I h (fun v L => ∃ a38 p39 n40 v42, v = .tuple #[.int .u8 r.1, .bool r.2.1] ∧ L = [rB b0 [.slice a38 n40 p39, iv r.2.2.at', v42] 206, rR (tInt .u8) .i a38 p39 n40 r.2.2.b', rE .i v42 r.2.2.err']) := by
 refine fc_of fun E hs => ?_
 unfold bytes_Cursor_Peek.m at H
 cases hs.nR d1
 refine fn_of (rs := [.tmp 2, .tmp 3]) (N := 24) Tryz.func56 rfl rfl rfl rfl ?_
 refine st 11 [] (k_op (lB (hs.bl d0) 2 rfl ?_))
 rcases (hs.er d2).cases with ⟨c27, rfl⟩ | ⟨c27, t28, u29, rfl⟩
 rotate_left
 ·rw [if_neg c27] at H
  obtain rfl := si H
  exact st 13 [true] (k_retQ ⟨_, by kernel_rfl, I, _, ⟨a21, p22, x0.b'.length, ((.iface t28 u29)), rfl, rfl⟩, hs.pk (.c d0 (.c d0 (.c d0 .n)))⟩)
 rw [if_pos c27] at H
 obtain ⟨hk, bk⟩ := hs.call tk1 (.c (qK d0) .n)
 refine st 3 [] (k_call H (fun _ m => bytes_Cursor_Left.calls m hk) ?_)
 rintro t30 _ h H ⟨I, _, ⟨a31, p32, n33, rfl, rfl⟩, hk⟩
 replace hs := bk hk ct2 rfl
 cases hs.nR d1
 refine k_ite H (fun c35 H => ?_) (fun c35 H => ?_)
 ·obtain rfl := si H
  exact st 8 [true] (k_retQ ⟨_, by kernel_rfl, I, _, ⟨a31, p32, t30.2.b'.length, (.nilIface), rfl, rfl⟩, hs.pk (.c d0 (.c d0 (.c d1 .n)))⟩)
 refine st 5 [false] ?_
 obtain ⟨hs0, bk0⟩ := hs.call tk0 (.c (qL d0) (.c (qK d1) .n))
 have hs := hs0
 refine k_regD hs0 12 ?_
 refine aRun [0, 1, 2] 9 hs.keep ?_
 refine aL 3 rfl hs.keep (ll hs0 d0 (n := 0) rfl) (nmL hs0 d0) ?_
 refine aRun [4, 5, 6] 5 hs.keep ?_
 refine aL 7 rfl hs.keep (ll hs0 d0 (n := 1) rfl) (nmL hs0 d0) ?_
 obtain ⟨c36, H⟩ := guard_pos H
 obtain ⟨c37, H⟩ := guard_pos H
 refine aP 8 (elemPtr a31 (t30.2.at'.toNat * 1)) rfl (pI (e := 5) (ik := .i64) (hs.sR d1) c36 c37) hs.keep ?_
 refine aL 9 rfl hs.keep ((hs0.sR d1).cell1 c36 c37) (nmR hs0 d1 c36 c37) ?_
 refine aRun [10, 11] 0 hs.keep ?_
 replace hs := hs.pk .n
 replace hs := bk0 hs ct0 rfl
 refine aEnd ?_
 obtain rfl := si H
 exact k_retQ ⟨_, by kernel_rfl, I, _, ⟨a31, p32, t30.2.b'.length, (.nilIface), rfl, rfl⟩, hs.pk (.c d0 (.c d0 (.c d1 .n)))⟩
end Go.Proofs.YtjkbhpokboolpaaGreatDoor.Sx
