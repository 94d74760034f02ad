import Derived.Test.YtjkbhpokboolpaaGreatDoorProg
import Derived.Test.YtjkbhpokboolpaaGreatDoorV4
import Derived.Test.YtjkbhpokboolpaaGreatDoorV5
import Derived.Test.YtjkbhpokboolpaaGreatDoorVF
import Derived.Test.YtjkbhpokboolpaaGreatDoorV6
import Derived.Test.YtjkbhpokboolpaaGreatDoorV7
import Derived.Test.YtjkbhpokboolpaaGreatDoorV9
import Derived.Test.YtjkbhpokboolpaaGreatDoorVD
import Derived.Test.YtjkbhpokboolpaaGreatDoorVC
import Derived.Test.YtjkbhpokboolpaaGreatDoorG0
import Derived.Test.YtjkbhpokboolpaaGreatDoorG4
import Derived.Test.YtjkbhpokboolpaaGreatDoorG8
namespace Go.Proofs.YtjkbhpokboolpaaGreatDoor.Sx
open Go
set_option maxRecDepth 100000
set_option maxHeartbeats 4000000
def side_texts.l1.m (K : Nat) (x0 : (List (List Int))) : Nat → (List (List Int)) → Int → Option ((List (List Int)))
  | 0, _, _ => none
  | k + 1, x25, x30 => (letJ (α := Bool → Option ((List (List Int)))) (fun (x40 : Bool) => (bif x40 then (if 0 ≤ x30 then (if x30 < (x0.length : Int) then ((slices_Clone_bytes.m (at_ x0 x30)).bind fun t52 => ((app x25 [t52]).bind fun l59 => (side_texts.l1.m K x0 k l59 (w64 (x30 + 1))))) else none) else none) else (some (x25)))) fun (j41 : Bool → Option ((List (List Int)))) => (if x30 < (x0.length : Int) then (j41 true) else (j41 false)))
def side_texts.m (K : Nat) (x0 : (List (List Int))) : Option (List (List Int)) :=
  ((side_texts.l1.m K x0 K [] 0).bind fun x32 => (some x32))
theorem side_texts.calls {B I : Gh} {h : Heap} {K : Nat} {x0 : (List (List Int))} {a21 : Option Addr} {p22 : Nat} {n23 : Nat} {r : (List (List Int))} (H : side_texts.m K x0 = some r)  :
    Fc Tryz.prog 81 #[.slice a21 n23 p22] [rR (tSl (tInt .u8)) .b a21 p22 n23 x0] B I h (fun v L => ∃ a65 p66 n67, v = .slice a65 n67 p66 ∧ L = [rO (tSl (tInt .u8)) .i a65 p66 n67 r]) := by
 refine fc_of fun E hs => ?_
 unfold side_texts.m at H
 cases hs.nR d0
 refine fn_of (rs := [.tmp 2]) (N := 19) Tryz.func81 rfl rfl rfl rfl ?_
 refine st 16 [] ?_
 obtain ⟨s31, m38, HR37⟩ := bind_some H
 refine k_loop 0 (fun k' ρ h => ∃ (x25 : List (List Int)) (x30 : Int), ∃ a26 p27 n28 I, side_texts.l1.m K x0 k' x25 x30 = some s31 ∧ Fits [(3, .slice a26 n28 p27), (6, .slice a21 x0.length p22), (7, iv (x0.length : Int)), (8, iv x30)] ρ ∧ St E [rO (tSl (tInt .u8)) .i a26 p27 n28 x25, rR (tSl (tInt .u8)) .b a21 p22 x0.length x0] I h) (fun ρ h => ∃ (x32 : List (List Int)), ∃ a33 p34 n35 I, x32 = s31 ∧ Fits [(3, .slice a33 n35 p34)] ρ ∧ St E [rO (tSl (tInt .u8)) .i a33 p34 n35 x32, rR (tSl (tInt .u8)) .b a21 p22 x0.length x0] I h) K ⟨[], 0, none, 0, 0, I, m38, ft, hs.pk (.f imON (.c d0 .n))⟩ ?_ rfl ?_
 rotate_left
 ·rintro ρ h ⟨x32, a33, p34, n35, I, rfl, hf, hs⟩
  have H := HR37
  try dsimp only at H
  refine k_fits _ hf ?_ rfl
  cases hs.nO d0
  obtain rfl := si H
  exact st 5 [] (k_retQ ⟨_, by kernel_rfl, I, _, ⟨a33, p34, x32.length, rfl, rfl⟩, hs.pk (.c d0 .n)⟩)
 clear HR37 m38 H
 rintro k' ρ h ⟨x25, x30, a26, p27, n28, I, H, hf, hs⟩
 cases k' with
 | zero => cases H
 | succ k =>
  rw [side_texts.l1.m] at H
  refine k_fits _ hf ?_ rfl
  cases hs.nO d0
  refine st 1 [] ?_
  obtain ⟨j41, e64, H⟩ := letJ_some H
  refine k_joinT (fun T ρ h => ∃ (x40 : Bool), ∃ I, j41 x40 = some s31 ∧ Fits [(3, .slice a26 x25.length p27), (6, .slice a21 x0.length p22), (7, iv (x0.length : Int)), (8, iv x30), (9, .bool x40)] ρ ∧ St E T I h) hs tl0 ?_ ?_
  ·refine st 1 [] (k_ite H (fun c39 H => ?_) (fun c39 H => ?_))
   ·exact st 1 [] (k_end ⟨true, I, H, ft, hs⟩)
   exact st 1 [] (k_end ⟨false, I, H, ft, hs⟩)
  clear H
  rintro ρ h ⟨x40, I, H, hf, hs⟩
  refine k_fits _ hf ?_ rfl
  subst e64
  try dsimp only at H
  cases x40
  ·rw [cond_false] at H
   refine st 2 [false] (k_out rfl ?_)
   obtain rfl := si H
   exact xE ⟨x25, a26, p27, x25.length, I, rfl, ft, hs.pk (.c d0 (.c d0 .n))⟩
  rw [cond_true] at H
  obtain ⟨c42, H⟩ := guard_pos H
  obtain ⟨c43, H⟩ := guard_pos H
  refine st 7 [true] (k_val (elemPtr a21 (x30.toNat * 1)) (pI (e := 31) (ik := .i64) (hs.sR d1) c42 c43) ?_)
  obtain ⟨y45, g44, q46⟩ := (hs.sR d1).toSl.seg c42 c43
  obtain ⟨a47, p48, n49, rfl, q51⟩ := rep_sl q46
  obtain rfl := q51.2
  replace hs := hs.pR q51
  refine k_op (lC (seg_cell (f := 0) g44 rfl) ?_)
  obtain ⟨hk, bk⟩ := hs.call tk0 (.c (qB d0) .n)
  refine st 5 [] (k_call H (fun _ m => slices_Clone_bytes.calls m hk) ?_)
  rintro t52 _ h H ⟨I, _, ⟨a53, p54, n55, rfl, rfl⟩, hk⟩
  replace hs := bk hk ct1 rfl
  cases hs.nO d0
  obtain ⟨I, hs⟩ := hs.fO
  refine k_op (nS (e := 31) hs .i (tSl (tInt .u8)) ([t52] : List (List Int)) [.slice a53 t52.length p54] 1 (.slice none 0 0) (Reps.cons (T := (tSl (tInt .u8))) (c := [.slice a53 t52.length p54]) (x := t52) ⟨_, _, _, rfl, (hs.g d0)⟩ (.nil : Reps (tSl (tInt .u8)) (Cl.G .i E.B I) h [] [])) ?_)
  intro b57 h hs
  replace hs := (hs.f d3)
  obtain ⟨l59, m60, H⟩ := bind_some H
  refine k_op (aO (e := 31) (bytes := 24) hs (hs.sO d1) m60 ?_)
  intro a61 p62 h hs
  exact st 7 [] (k_endL ⟨k, Nat.lt_succ_self _, l59, (w64 (x30 + 1)), a61, p62, l59.length, I, H, ft, hs.pk (.c d0 (.c d3 .n))⟩)
def side_Host_Got.m (K : Nat) (x0 : side_Host) : Option ((List (List Int)) × side_Host) :=
  ((side_texts.m K x0.got').bind fun t28 => (some (t28, x0)))
theorem side_Host_Got.calls {B I : Gh} {h : Heap} {K : Nat} {x0 : side_Host} {b0 : Nat} {v21 : Value} {v22 : Value} {v23 : Value} {a24 : Option Addr} {p25 : Nat} {n26 : Nat} {r : ((List (List Int)) × side_Host)} (H : side_Host_Got.m K x0 = some r)  :
    Fc Tryz.prog 46 #[pv b0] [rB b0 [v21, v22, iv x0.side'.gate'.Dir, iv x0.side'.gate'.Seen.Top, .int .u64 x0.side'.gate'.Seen.Bits, .string x0.side'.gate'.Peer.Addr, iv x0.side'.gate'.Peer.Seq, v23, iv x0.side'.dir', iv x0.side'.seq', .slice a24 n26 p25] 118, rO (tSl (tInt .u8)) .i a24 p25 n26 x0.got'] B I h (fun v L => ∃ a33 p34 n35 a37 p38 n39, v = .slice a33 n35 p34 ∧ L = [rO (tSl (tInt .u8)) .i a33 p34 n35 r.1, rB b0 [v21, v22, iv r.2.side'.gate'.Dir, iv r.2.side'.gate'.Seen.Top, .int .u64 r.2.side'.gate'.Seen.Bits, .string r.2.side'.gate'.Peer.Addr, iv r.2.side'.gate'.Peer.Seq, v23, iv r.2.side'.dir', iv r.2.side'.seq', .slice a37 n39 p38] 118, rO (tSl (tInt .u8)) .i a37 p38 n39 r.2.got']) := by
 refine fc_of fun E hs => ?_
 unfold side_Host_Got.m at H
 cases hs.nO d1
 refine fn_of (rs := [.tmp 2]) (N := 8) Tryz.func46 rfl rfl rfl rfl ?_
 refine st 9 [] (k_op (lB (hs.bl d0) 10 rfl ?_))
 obtain ⟨hk, bk⟩ := hs.call tk0 (.c (qO d1) .n)
 refine k_call H (fun _ m => side_texts.calls m hk) ?_
 rintro t28 _ h H ⟨I, _, ⟨a29, p30, n31, rfl, rfl⟩, hk⟩
 replace hs := bk hk ct1 rfl
 cases hs.nO d0
 obtain rfl := si H
 exact st 2 [] (k_retQ ⟨_, by kernel_rfl, I, _, ⟨a29, p30, t28.length, a24, p25, x0.got'.length, rfl, rfl⟩, hs.pk (.c d0 (.c d0 (.c d0 .n)))⟩)
def side_NewHost.m (x0 : (List Int)) : Option side_Host :=
  ((side_made.m x0 1).bind fun t25 => (some (⟨t25, []⟩ : side_Host)))
theorem side_NewHost.calls {B I : Gh} {h : Heap} {x0 : (List Int)} {a21 : Option Addr} {p22 : Nat} {n23 : Nat} {r : side_Host} (H : side_NewHost.m x0 = some r)  :
    Fc Tryz.prog 79 #[.slice a21 n23 p22] [rR (tInt .u8) .b a21 p22 n23 x0] B I h (fun v L => ∃ b45 a46 p47 n48 a50 p51 n52 b54 a55 p56 n57 b59 a60 p61 n62 a64 p65 n66, v = pv b45 ∧ L = [rB b45 [.slice a46 n48 p47, .slice a50 n52 p51, iv r.side'.gate'.Dir, iv r.side'.gate'.Seen.Top, .int .u64 r.side'.gate'.Seen.Bits, .string r.side'.gate'.Peer.Addr, iv r.side'.gate'.Peer.Seq, pv b54, iv r.side'.dir', iv r.side'.seq', .slice a64 n66 p65] 118, rR (tInt .u8) .i a46 p47 n48 r.side'.key', rR (tInt .u8) .i a50 p51 n52 r.side'.gate'.Key, rB b54 [.slice a55 n57 p56, iv r.side'.line'.given', iv r.side'.line'.await', .map (some b59), .slice a60 n62 p61, iv r.side'.line'.wait', iv r.side'.line'.left', .bool r.side'.line'.owes'] 239, rO t_api_Pack .i a55 p56 n57 r.side'.line'.queue', rM t_api_Pack b59 r.side'.line'.kept', rO (tInt .u8) .i a60 p61 n62 r.side'.line'.coming', rO (tSl (tInt .u8)) .i a64 p65 n66 r.got']) := by
 refine fc_of fun E hs => ?_
 unfold side_NewHost.m at H
 cases hs.nR d0
 refine fn_of (rs := [.tmp 2]) (N := 7) Tryz.func79 rfl rfl rfl rfl ?_
 obtain ⟨hk, bk⟩ := hs.call tk0 (.c (qB d0) .n)
 refine st 7 [] (k_call H (fun _ m => side_made.calls m hk) ?_)
 rintro t25 _ h H ⟨I, _, ⟨a26, p27, n28, a30, p31, n32, b34, a35, p36, n37, b39, a40, p41, n42, rfl, rfl⟩, hk⟩
 replace hs := bk hk ct6 rfl
 cases hs.nR d0
 cases hs.nR d1
 cases hs.nO d3
 cases hs.nO d5
 refine st 1 [] (k_op (nB hs [.slice a26 t25.key'.length p27, .slice a30 t25.gate'.Key.length p31, iv t25.gate'.Dir, iv t25.gate'.Seen.Top, .int .u64 t25.gate'.Seen.Bits, .string t25.gate'.Peer.Addr, iv t25.gate'.Peer.Seq, pv b34, iv t25.dir', iv t25.seq', .slice none 0 0] ?_))
 intro b44 h hs
 obtain rfl := si H
 exact st 2 [] (k_retQ ⟨_, by kernel_rfl, I, _, ⟨b44, a26, p27, t25.key'.length, a30, p31, t25.gate'.Key.length, b34, a35, p36, t25.line'.queue'.length, b39, a40, p41, t25.line'.coming'.length, none, 0, 0, rfl, rfl⟩, hs.pk (.c d0 (.c d0 (.c d0 (.c d0 (.c d0 (.c d0 (.c d0 (.f imON .n))))))))⟩)
def side_Client_Sent.m (K : Nat) (x0 : side_Client) : Option ((List (List Int)) × side_Client) :=
  ((side_texts.m K x0.sent').bind fun t31 => (some (t31, x0)))
theorem side_Client_Sent.calls {B I : Gh} {h : Heap} {K : Nat} {x0 : side_Client} {b0 : Nat} {v21 : Value} {v22 : Value} {v23 : Value} {v24 : Value} {v25 : Value} {a26 : Option Addr} {p27 : Nat} {n28 : Nat} {v30 : Value} {r : ((List (List Int)) × side_Client)} (H : side_Client_Sent.m K x0 = some r)  :
    Fc Tryz.prog 28 #[pv b0] [rB b0 [v21, v22, iv x0.side'.gate'.Dir, iv x0.side'.gate'.Seen.Top, .int .u64 x0.side'.gate'.Seen.Bits, .string x0.side'.gate'.Peer.Addr, iv x0.side'.gate'.Peer.Seq, v23, iv x0.side'.dir', iv x0.side'.seq', iv x0.s'.Rows, iv x0.s'.Cols, v24, iv x0.s'.Cursor, .bool x0.s'.Locked, .bool x0.s'.Insert, v25, .slice a26 n28 p27, v30] 78, rO (tSl (tInt .u8)) .i a26 p27 n28 x0.sent'] B I h (fun v L => ∃ a36 p37 n38 a40 p41 n42, v = .slice a36 n38 p37 ∧ L = [rO (tSl (tInt .u8)) .i a36 p37 n38 r.1, rB b0 [v21, v22, iv r.2.side'.gate'.Dir, iv r.2.side'.gate'.Seen.Top, .int .u64 r.2.side'.gate'.Seen.Bits, .string r.2.side'.gate'.Peer.Addr, iv r.2.side'.gate'.Peer.Seq, v23, iv r.2.side'.dir', iv r.2.side'.seq', iv r.2.s'.Rows, iv r.2.s'.Cols, v24, iv r.2.s'.Cursor, .bool r.2.s'.Locked, .bool r.2.s'.Insert, v25, .slice a40 n42 p41, v30] 78, rO (tSl (tInt .u8)) .i a40 p41 n42 r.2.sent']) := by
 refine fc_of fun E hs => ?_
 unfold side_Client_Sent.m at H
 cases hs.nO d1
 refine fn_of (rs := [.tmp 2]) (N := 8) Tryz.func28 rfl rfl rfl rfl ?_
 refine st 9 [] (k_op (lB (hs.bl d0) 17 rfl ?_))
 obtain ⟨hk, bk⟩ := hs.call tk0 (.c (qO d1) .n)
 refine k_call H (fun _ m => side_texts.calls m hk) ?_
 rintro t31 _ h H ⟨I, _, ⟨a32, p33, n34, rfl, rfl⟩, hk⟩
 replace hs := bk hk ct1 rfl
 cases hs.nO d0
 obtain rfl := si H
 exact st 2 [] (k_retQ ⟨_, by kernel_rfl, I, _, ⟨a32, p33, t31.length, a26, p27, x0.sent'.length, rfl, rfl⟩, hs.pk (.c d0 (.c d0 (.c d0 .n)))⟩)
def slices_Clone_api_Event.m (x0 : (List api_Event)) : Option (List api_Event) :=
  ((app [] x0).bind fun l29 => (some l29))
theorem slices_Clone_api_Event.calls {B I : Gh} {h : Heap} {x0 : (List api_Event)} {a21 : Option Addr} {p22 : Nat} {n23 : Nat} {r : (List api_Event)} (H : slices_Clone_api_Event.m x0 = some r)  :
    Fc Tryz.prog 82 #[.slice a21 n23 p22] [rP t_api_Event a21 p22 n23 x0] B I h (fun v L => ∃ a34 p35 n36, v = .slice a34 n36 p35 ∧ L = [rO t_api_Event .i a34 p35 n36 r]) := by
 refine fc_of fun E hs => ?_
 unfold slices_Clone_api_Event.m at H
 cases hs.nP d0
 refine fn_of (rs := [.tmp 2]) (N := 8) Tryz.func82 rfl rfl rfl rfl ?_
 rcases a21 with _ | ad25
 ·have e26 := ((hs.sP d0).toSl.nil rfl).1
  replace H : (some []) = some r := by simpa [app, Lim, e26] using H
  obtain rfl := si H
  exact st 15 [true] (k_retQ ⟨_, by kernel_rfl, I, _, ⟨none, 0, 0, rfl, rfl⟩, hs.pk (.f imON .n)⟩)
 refine st 14 [false] (k_op (nS (e := 116) hs .i t_api_Event ([] : List api_Event) [] 5 (.agg #[.bool false, iv 0, .int .u8 0, iv 0, .slice none 0 0]) (.nil : Reps t_api_Event (Cl.G .i E.B I) h [] []) ?_))
 intro b27 h hs
 obtain ⟨l29, m30, H⟩ := bind_some H
 refine st 1 [] (k_op (aO (e := 116) (bytes := 56) hs (hs.sP d1) m30 ?_))
 intro a31 p32 h hs
 obtain rfl := si H
 exact st 2 [] (k_retQ ⟨_, by kernel_rfl, I, _, ⟨a31, p32, l29.length, rfl, rfl⟩, hs.pk (.c d0 .n)⟩)
def side_Client_Events.l1.m (K : Nat) (t31 : (List api_Event)) : Nat → (List api_Event) → Int → Option ((List api_Event))
  | 0, _, _ => none
  | k + 1, x36, x41 => (letJ (α := Bool → Option ((List api_Event))) (fun (x51 : Bool) => (bif x51 then (if 0 ≤ x41 then (if x41 < (x36.length : Int) then ((slices_Clone_bytes.m ((at_ x36 x41).Bytes)).bind fun t63 => (side_Client_Events.l1.m K t31 k (x36.set x41.toNat (⟨(at_ x36 x41).Host, ((at_ x36 x41).Key), (at_ x36 x41).Code, t63⟩ : api_Event)) (w64 (x41 + 1)))) else none) else none) else (some (x36)))) fun (j52 : Bool → Option ((List api_Event))) => (if x41 < (t31.length : Int) then (j52 true) else (j52 false)))
def side_Client_Events.m (K : Nat) (x0 : side_Client) : Option ((List api_Event) × side_Client) :=
  ((slices_Clone_api_Event.m x0.events').bind fun t31 => ((side_Client_Events.l1.m K t31 K t31 0).bind fun x43 => (some (x43, x0))))
theorem side_Client_Events.calls {B I : Gh} {h : Heap} {K : Nat} {x0 : side_Client} {b0 : Nat} {v21 : Value} {v22 : Value} {v23 : Value} {v24 : Value} {v25 : Value} {v26 : Value} {a27 : Option Addr} {p28 : Nat} {n29 : Nat} {r : ((List api_Event) × side_Client)} (H : side_Client_Events.m K x0 = some r)  :
    Fc Tryz.prog 29 #[pv b0] [rB b0 [v21, v22, iv x0.side'.gate'.Dir, iv x0.side'.gate'.Seen.Top, .int .u64 x0.side'.gate'.Seen.Bits, .string x0.side'.gate'.Peer.Addr, iv x0.side'.gate'.Peer.Seq, v23, iv x0.side'.dir', iv x0.side'.seq', iv x0.s'.Rows, iv x0.s'.Cols, v24, iv x0.s'.Cursor, .bool x0.s'.Locked, .bool x0.s'.Insert, v25, v26, .slice a27 n29 p28] 78, rO t_api_Event .i a27 p28 n29 x0.events'] B I h (fun v L => ∃ a77 p78 n79 a81 p82 n83, v = .slice a77 n79 p78 ∧ L = [rO t_api_Event .i a77 p78 n79 r.1, rB b0 [v21, v22, iv r.2.side'.gate'.Dir, iv r.2.side'.gate'.Seen.Top, .int .u64 r.2.side'.gate'.Seen.Bits, .string r.2.side'.gate'.Peer.Addr, iv r.2.side'.gate'.Peer.Seq, v23, iv r.2.side'.dir', iv r.2.side'.seq', iv r.2.s'.Rows, iv r.2.s'.Cols, v24, iv r.2.s'.Cursor, .bool r.2.s'.Locked, .bool r.2.s'.Insert, v25, v26, .slice a81 n83 p82] 78, rO t_api_Event .i a81 p82 n83 r.2.events']) := by
 refine fc_of fun E hs => ?_
 unfold side_Client_Events.m at H
 cases hs.nO d1
 refine fn_of (rs := [.tmp 2]) (N := 27) Tryz.func29 rfl rfl rfl rfl ?_
 refine st 9 [] (k_op (lB (hs.bl d0) 18 rfl ?_))
 obtain ⟨hk, bk⟩ := hs.call tk0 (.c (qMO d1) .n)
 refine k_call H (fun _ m => slices_Clone_api_Event.calls m hk) ?_
 rintro t31 _ h H ⟨I, _, ⟨a32, p33, n34, rfl, rfl⟩, hk⟩
 replace hs := bk hk ct1 rfl
 cases hs.nO d0
 refine st 10 [] ?_
 obtain ⟨s42, m49, HR48⟩ := bind_some H
 refine k_loopT hs tl1 0 (fun T k' ρ h => ∃ (x36 : List api_Event) (x41 : Int), ∃ a37 p38 n39 I, side_Client_Events.l1.m K t31 k' x36 x41 = some s42 ∧ Fits [(3, .slice a37 n39 p38), (11, iv (t31.length : Int)), (12, iv x41)] ρ ∧ St E (rO t_api_Event .i a37 p38 n39 x36 :: T) I h) (fun T ρ h => ∃ (x43 : List api_Event), ∃ a44 p45 n46 I, x43 = s42 ∧ Fits [(3, .slice a44 n46 p45)] ρ ∧ St E (rO t_api_Event .i a44 p45 n46 x43 :: T) I h) K ⟨t31, 0, a32, p33, t31.length, I, m49, ft, hs.pk (.c d0 pk0)⟩ ?_ rfl ?_
 rotate_left
 ·rintro ρ h ⟨x43, a44, p45, n46, I, rfl, hf, hs⟩
  have H := HR48
  try dsimp only at H
  refine k_fits _ hf ?_ rfl
  cases hs.nO d0
  obtain rfl := si H
  exact st 5 [] (k_retQ ⟨_, by kernel_rfl, I, _, ⟨a44, p45, x43.length, a27, p28, x0.events'.length, rfl, rfl⟩, hs.pk (.c d0 (.c d0 (.c d0 .n)))⟩)
 clear HR48 m49 H
 rintro k' ρ h ⟨x36, x41, a37, p38, n39, I, H, hf, hs⟩
 cases k' with
 | zero => cases H
 | succ k =>
  rw [side_Client_Events.l1.m] at H
  refine k_fits _ hf ?_ rfl
  cases hs.nO d0
  refine st 1 [] ?_
  obtain ⟨j52, e76, H⟩ := letJ_some H
  refine k_joinT (fun T ρ h => ∃ (x51 : Bool), ∃ I, j52 x51 = some s42 ∧ Fits [(3, .slice a37 x36.length p38), (11, iv (t31.length : Int)), (12, iv x41), (13, .bool x51)] ρ ∧ St E T I h) hs tl0 ?_ ?_
  ·refine st 1 [] (k_ite H (fun c50 H => ?_) (fun c50 H => ?_))
   ·exact st 1 [] (k_end ⟨true, I, H, ft, hs⟩)
   exact st 1 [] (k_end ⟨false, I, H, ft, hs⟩)
  clear H
  rintro ρ h ⟨x51, I, H, hf, hs⟩
  refine k_fits _ hf ?_ rfl
  subst e76
  try dsimp only at H
  cases x51
  ·rw [cond_false] at H
   refine st 2 [false] (k_out rfl ?_)
   obtain rfl := si H
   exact xE ⟨x36, a37, p38, x36.length, I, rfl, ft, hs.pk (.c d0 pk0)⟩
  rw [cond_true] at H
  obtain ⟨c53, H⟩ := guard_pos H
  obtain ⟨c54, H⟩ := guard_pos H
  refine st 15 [true] (k_val (elemPtr a37 (x41.toNat * 5)) (pI (e := 116) (ik := .i64) (hs.sO d0) c53 c54) ?_)
  refine k_val (elemPtr a37 (x41.toNat * 5 + 4)) (pF (off := 4) (hs.sO d0) c53 c54) ?_
  obtain ⟨y56, g55, q57⟩ := (hs.sO d0).toSl.seg c53 c54
  obtain ⟨a58, p59, n60, rfl, q62⟩ := t_api_Event.open_ q57
  obtain rfl := q62.2
  replace hs := hs.pR q62
  refine k_op (lC (seg_cell (f := 4) g55 rfl) ?_)
  obtain ⟨hk, bk⟩ := hs.call tk0 (.c (qI d0) .n)
  refine k_call H (fun _ m => slices_Clone_bytes.calls m hk) ?_
  rintro t63 _ h H ⟨I, _, ⟨a64, p65, n66, rfl, rfl⟩, hk⟩
  replace hs := bk hk ct1 rfl
  cases hs.nO d0
  refine k_val (elemPtr a37 (x41.toNat * 5)) (pI (e := 116) (ik := .i64) (hs.sO d2) c53 c54) ?_
  refine k_val (elemPtr a37 (x41.toNat * 5 + 4)) (pF (off := 4) (hs.sO d2) c53 c54) ?_
  obtain ⟨I, hs⟩ := hs.fO
  obtain ⟨y69, g68, q70⟩ := (hs.sO d2).toSl.seg c53 c54
  obtain ⟨a71, p72, n73, rfl, q75⟩ := t_api_Event.open_ q70
  obtain rfl := q75.2
  replace hs := hs.pR q75
  replace hs := (hs.f d3)
  refine k_op (sE hs 4 [.slice a64 t63.length p65] (⟨(at_ x36 x41).Host, ((at_ x36 x41).Key), (at_ x36 x41).Code, t63⟩ : api_Event) c53 c54 g68 (ones_of rfl) ⟨_, _, _, rfl, (hs.g d2)⟩ ?_)
  intro h hs
  exact st 6 [] (k_endL ⟨k, Nat.lt_succ_self _, (x36.set x41.toNat (⟨(at_ x36 x41).Host, ((at_ x36 x41).Key), (at_ x36 x41).Code, t63⟩ : api_Event)), (w64 (x41 + 1)), a37, p38, x36.length, I, H, ft, hs.pk (.c d0 pk3)⟩)
def line_Line_Waits.m (x0 : line_Line) : Option (Int × line_Line) :=
  (some ((x0.queue'.length : Int), x0))
theorem line_Line_Waits.calls {B I : Gh} {h : Heap} {x0 : line_Line} {b0 : Nat} {a21 : Option Addr} {p22 : Nat} {n23 : Nat} {v25 : Value} {v26 : Value} {r : (Int × line_Line)} (H : line_Line_Waits.m x0 = some r)  :
    Fc Tryz.prog 84 #[pv b0] [rB b0 [.slice a21 n23 p22, iv x0.given', iv x0.await', v25, v26, iv x0.wait', iv x0.left', .bool x0.owes'] 239, rO t_api_Pack .i a21 p22 n23 x0.queue'] B I h (fun v L => ∃ a27 p28 n29, v = iv r.1 ∧ L = [rB b0 [.slice a27 n29 p28, iv r.2.given', iv r.2.await', v25, v26, iv r.2.wait', iv r.2.left', .bool r.2.owes'] 239, rO t_api_Pack .i a27 p28 n29 r.2.queue']) := by
 refine fc_of fun E hs => ?_
 unfold line_Line_Waits.m at H
 cases hs.nO d1
 refine fn_of (rs := [.tmp 2]) (N := 8) Tryz.func84 rfl rfl rfl rfl ?_
 refine st 9 [] (k_op (lB (hs.bl d0) 0 rfl ?_))
 obtain rfl := si H
 exact st 3 [] (k_retQ ⟨_, by kernel_rfl, I, _, ⟨a21, p22, x0.queue'.length, rfl, rfl⟩, hs.pk (.c d0 (.c d0 .n))⟩)
def side_Client_Waits.m (x0 : side_Client) : Option (Int × side_Client) :=
  ((line_Line_Waits.m x0.side'.line').bind fun t40 => (some ((w64 (t40.1 + (x0.todo'.length : Int))), (⟨(⟨x0.side'.key', x0.side'.gate', (⟨t40.2.queue', t40.2.given', t40.2.await', x0.side'.line'.kept', x0.side'.line'.coming', t40.2.wait', t40.2.left', t40.2.owes'⟩ : line_Line), x0.side'.dir', x0.side'.seq'⟩ : side_side), x0.s', x0.todo', x0.sent', x0.events'⟩ : side_Client))))
theorem side_Client_Waits.calls {B I : Gh} {h : Heap} {x0 : side_Client} {b0 : Nat} {v21 : Value} {v22 : Value} {b23 : Nat} {a24 : Option Addr} {p25 : Nat} {n26 : Nat} {b28 : Nat} {a29 : Option Addr} {p30 : Nat} {n31 : Nat} {v33 : Value} {a34 : Option Addr} {p35 : Nat} {n36 : Nat} {v38 : Value} {v39 : Value} {r : (Int × side_Client)} (H : side_Client_Waits.m x0 = some r)  :
    Fc Tryz.prog 30 #[pv b0] [rB b0 [v21, v22, iv x0.side'.gate'.Dir, iv x0.side'.gate'.Seen.Top, .int .u64 x0.side'.gate'.Seen.Bits, .string x0.side'.gate'.Peer.Addr, iv x0.side'.gate'.Peer.Seq, pv b23, iv x0.side'.dir', iv x0.side'.seq', iv x0.s'.Rows, iv x0.s'.Cols, v33, iv x0.s'.Cursor, .bool x0.s'.Locked, .bool x0.s'.Insert, .slice a34 n36 p35, v38, v39] 78, rB b23 [.slice a24 n26 p25, iv x0.side'.line'.given', iv x0.side'.line'.await', .map (some b28), .slice a29 n31 p30, iv x0.side'.line'.wait', iv x0.side'.line'.left', .bool x0.side'.line'.owes'] 239, rO t_api_Pack .i a24 p25 n26 x0.side'.line'.queue', rM t_api_Pack b28 x0.side'.line'.kept', rO (tInt .u8) .i a29 p30 n31 x0.side'.line'.coming', rO (tSl (tInt .u8)) .i a34 p35 n36 x0.todo'] B I h (fun v L => ∃ a45 p46 n47 a49 p50 n51 a53 p54 n55, v = iv r.1 ∧ L = [rB b0 [v21, v22, iv r.2.side'.gate'.Dir, iv r.2.side'.gate'.Seen.Top, .int .u64 r.2.side'.gate'.Seen.Bits, .string r.2.side'.gate'.Peer.Addr, iv r.2.side'.gate'.Peer.Seq, pv b23, iv r.2.side'.dir', iv r.2.side'.seq', iv r.2.s'.Rows, iv r.2.s'.Cols, v33, iv r.2.s'.Cursor, .bool r.2.s'.Locked, .bool r.2.s'.Insert, .slice a53 n55 p54, v38, v39] 78, rB b23 [.slice a45 n47 p46, iv r.2.side'.line'.given', iv r.2.side'.line'.await', .map (some b28), .slice a49 n51 p50, iv r.2.side'.line'.wait', iv r.2.side'.line'.left', .bool r.2.side'.line'.owes'] 239, rO t_api_Pack .i a45 p46 n47 r.2.side'.line'.queue', rM t_api_Pack b28 r.2.side'.line'.kept', rO (tInt .u8) .i a49 p50 n51 r.2.side'.line'.coming', rO (tSl (tInt .u8)) .i a53 p54 n55 r.2.todo']) := by
 refine fc_of fun E hs => ?_
 unfold side_Client_Waits.m at H
 cases hs.nO d2
 cases hs.nO d4
 cases hs.nO d5
 refine fn_of (rs := [.tmp 2]) (N := 15) Tryz.func30 rfl rfl rfl rfl ?_
 refine st 5 [] ?_
 obtain ⟨hs0, bk0⟩ := ((hs.f d2).f d2).call tk2 (.c (qL d0) .n)
 have hs := hs0
 refine k_regD hs0 13 ?_
 refine aRun [0, 1, 2, 3] 9 hs.keep ?_
 refine aL 4 rfl hs.keep (ll hs0 d2 (n := 7) rfl) (nmL hs0 d2) ?_
 refine aRun [6, 7, 8] 5 hs.keep ?_
 refine aL 9 rfl hs.keep (ll hs0 d2 (n := 16) rfl) (nmL hs0 d2) ?_
 refine aRun [10] 3 hs.keep ?_
 obtain ⟨hk, bk⟩ := ((hs.f d1).f d1).call tk2 .n
 refine aO1 5 rfl (o_call H (fun _ m => line_Line_Waits.calls m hk) ?_)
 rintro t40 _ h H ⟨I, _, ⟨a41, p42, n43, rfl, rfl⟩, hk⟩
 replace hs := bk hk ct2 rfl
 cases hs.nO d1
 refine ⟨hs.keep, ?_⟩
 refine aRun [11, 12] 0 hs.keep ?_
 replace hs := hs.pk (.c d0 (.c d0 .n))
 replace hs := bk0 hs ct2 rfl
 refine aEnd ?_
 obtain rfl := si H
 exact k_retQ ⟨_, by kernel_rfl, I, _, ⟨a41, p42, t40.2.queue'.length, a29, p30, x0.side'.line'.coming'.length, a34, p35, x0.todo'.length, rfl, rfl⟩, hs.pk (.c d2 (.c d0 (.c d0 (.c d0 (.c d0 (.c d0 .n))))))⟩
def side_side_Peer.m (x0 : side_side) : Option (api_Peer × side_side) :=
  (some (x0.gate'.Peer, x0))
theorem side_side_Peer.calls {B I : Gh} {h : Heap} {x0 : side_side} {b0 : Nat} {v21 : Value} {v22 : Value} {v23 : Value} {tl24 : List Value} {TT25 : TypeId} {r : (api_Peer × side_side)} (H : side_side_Peer.m x0 = some r)  :
    Fc Tryz.prog 31 #[pv b0] [rB b0 (v21 :: v22 :: iv x0.gate'.Dir :: iv x0.gate'.Seen.Top :: .int .u64 x0.gate'.Seen.Bits :: .string x0.gate'.Peer.Addr :: iv x0.gate'.Peer.Seq :: v23 :: iv x0.dir' :: iv x0.seq' :: tl24) TT25] B I h (fun v L => v = .agg #[.string r.1.Addr, iv r.1.Seq] ∧ L = [rB b0 (v21 :: v22 :: iv r.2.gate'.Dir :: iv r.2.gate'.Seen.Top :: .int .u64 r.2.gate'.Seen.Bits :: .string r.2.gate'.Peer.Addr :: iv r.2.gate'.Peer.Seq :: v23 :: iv r.2.dir' :: iv r.2.seq' :: tl24) TT25]) := by
 refine fc_of fun E hs => ?_
 unfold side_side_Peer.m at H
 refine fn_of2 (rs := [.cell 2 67]) (N := 8) Tryz.func31 rfl rfl rfl rfl ?_
 refine st 2 [] (k_op (nA hs [.string (⟨#[]⟩ : ByteArray), iv 0] (.agg #[.string (⟨#[]⟩ : ByteArray), iv 0]) ?_))
 intro b26 h hs
 refine st 7 [] (k_op (lN (hs.bl d1) 5 2 ?_))
 refine k_op (sN0 hs [.string x0.gate'.Peer.Addr, iv x0.gate'.Peer.Seq] (ones_of rfl) ?_)
 intro h hs
 obtain rfl := si H
 exact st 1 [] (k_retQ ⟨[.agg #[.string x0.gate'.Peer.Addr, iv x0.gate'.Peer.Seq]], (.cons (.agg (by kernel_rfl) (by kernel_rfl) (by kernel_rfl) ((hs.bl d0).seg_ 0 2 (Nat.le_of_ble_eq_true rfl))) .nil), I, _, ⟨rfl, rfl⟩, hs.pk (.c d1 .n)⟩)
def shutterlaw25_awake.m (K : Nat)  : Option Bool :=
  ((side_NewClient.m [107] 2 40).bind fun t23 => mcase t23.1 ((side_NewHost.m [107]).bind fun t30 => (if t23.2 = GoErr.nil then (some false) else (some false))) (fun y24 => ((side_NewHost.m [107]).bind fun t96 => (if t23.2 = GoErr.nil then (letJ (α := Bool → GoErr → side_Client → Option Bool) (fun (x147 : Bool) (x148 : GoErr) (x151 : side_Client) => ((side_Client_Tick.m K x151).bind fun t185 => (if x148 = GoErr.nil then (bif x147 then (if (t185.1.length : Int) = 1 then (if 0 < (t185.1.length : Int) then ((side_Host_Hear.m K t96 (⟨#[120]⟩ : ByteArray) (at_ t185.1 0)).bind fun t232 => (if t232.1 = GoErr.nil then ((side_Host_Got.m K (⟨(⟨t96.side'.key', t232.2.side'.gate', t232.2.side'.line', t232.2.side'.dir', t232.2.side'.seq'⟩ : side_side), t232.2.got'⟩ : side_Host)).bind fun t254 => (if (t254.1.length : Int) = 1 then (if 0 < (t254.1.length : Int) then (if ((at_ t254.1 0).length : Int) = 4 then (if 0 < ((at_ t254.1 0).length : Int) then (if (at_ (at_ t254.1 0) 0) = 0 then (if 1 < ((at_ t254.1 0).length : Int) then (if (at_ (at_ t254.1 0) 1) = 125 then ((side_side_Peer.m (⟨t96.side'.key', (⟨t232.2.side'.gate'.Key, t254.2.side'.gate'.Dir, t254.2.side'.gate'.Seen, t254.2.side'.gate'.Peer⟩ : roam_Gate), t232.2.side'.line', t254.2.side'.dir', t254.2.side'.seq'⟩ : side_side)).bind fun t278 => (bif ((t278.1.Addr == (⟨#[120]⟩ : ByteArray)) && ((t278.1.Seq == 1) && true)) then ((side_Client_Waits.m (⟨(⟨t185.2.side'.key', (⟨x151.side'.gate'.Key, t185.2.side'.gate'.Dir, t185.2.side'.gate'.Seen, t185.2.side'.gate'.Peer⟩ : roam_Gate), t185.2.side'.line', t185.2.side'.dir', t185.2.side'.seq'⟩ : side_side), t185.2.s', t185.2.todo', t185.2.sent', t185.2.events'⟩ : side_Client)).bind fun t280 => (if t280.1 = 1 then ((side_Client_Sent.m K (⟨(⟨t185.2.side'.key', (⟨x151.side'.gate'.Key, t280.2.side'.gate'.Dir, t280.2.side'.gate'.Seen, t280.2.side'.gate'.Peer⟩ : roam_Gate), t280.2.side'.line', t280.2.side'.dir', t280.2.side'.seq'⟩ : side_side), (⟨t280.2.s'.Rows, t280.2.s'.Cols, t185.2.s'.Cells, t280.2.s'.Cursor, t280.2.s'.Locked, t280.2.s'.Insert⟩ : api_Screen), t280.2.todo', t185.2.sent', t185.2.events'⟩ : side_Client)).bind fun t294 => (if (t294.1.length : Int) = 1 then ((side_Client_Events.m K (⟨(⟨t185.2.side'.key', (⟨x151.side'.gate'.Key, t294.2.side'.gate'.Dir, t294.2.side'.gate'.Seen, t294.2.side'.gate'.Peer⟩ : roam_Gate), t280.2.side'.line', t294.2.side'.dir', t294.2.side'.seq'⟩ : side_side), (⟨t294.2.s'.Rows, t294.2.s'.Cols, t185.2.s'.Cells, t294.2.s'.Cursor, t294.2.s'.Locked, t294.2.s'.Insert⟩ : api_Screen), t280.2.todo', t294.2.sent', t185.2.events'⟩ : side_Client)).bind fun t304 => (some ((t304.1.length : Int) == 1))) else (some false))) else (some false))) else (some false))) else (some false)) else none) else (some false)) else none) else (some false)) else none) else (some false))) else (some false))) else none) else (some false)) else (some false)) else (some false)))) fun (j184 : Bool → GoErr → side_Client → Option Bool) => ((side_Client_Key.m K y24 (⟨17, 125⟩ : api_Key)).bind fun t123 => (bif t123.1 then (j184 true t123.2.1 (⟨(⟨y24.side'.key', (⟨y24.side'.gate'.Key, t123.2.2.side'.gate'.Dir, t123.2.2.side'.gate'.Seen, t123.2.2.side'.gate'.Peer⟩ : roam_Gate), t123.2.2.side'.line', t123.2.2.side'.dir', t123.2.2.side'.seq'⟩ : side_side), t123.2.2.s', y24.todo', t123.2.2.sent', t123.2.2.events'⟩ : side_Client)) else (j184 false t123.2.1 (⟨(⟨y24.side'.key', (⟨y24.side'.gate'.Key, t123.2.2.side'.gate'.Dir, t123.2.2.side'.gate'.Seen, t123.2.2.side'.gate'.Peer⟩ : roam_Gate), t123.2.2.side'.line', t123.2.2.side'.dir', t123.2.2.side'.seq'⟩ : side_side), t123.2.2.s', y24.todo', t123.2.2.sent', t123.2.2.events'⟩ : side_Client))))) else (some false)))))
theorem shutterlaw25_awake.calls {B I : Gh} {h : Heap} {K : Nat} {r : Bool} (H : shutterlaw25_awake.m K = some r)  :
    Fc Tryz.prog 23 #[] [rG] B I h (fun v L => v = .bool r ∧ L = []) := by
 refine fc_of fun E hs => ?_
 unfold shutterlaw25_awake.m at H
 refine fn_of (rs := [.tmp 0]) (N := 107) Tryz.func23 rfl rfl rfl rfl ?_
 refine st 6 [] (k_op (nS (e := 5) hs .i (tInt .u8) ([107] : List Int) [.int .u8 107] 1 (.int .u8 0) (Reps.int (I := (Cl.G .i E.B I)) (k := .u8) (l := [107])) ?_))
 intro b21 h hs
 refine k_op (cvO (e := 5) hs ?_)
 intro I h hs
 obtain ⟨hk, bk⟩ := hs.call tk0 (.c (qI d0) .n)
 refine k_call H (fun _ m => side_NewClient.calls m hk) ?_
 rintro t23 _ h H ⟨I, _, hout, hk⟩
 rcases hout with ⟨e25, ⟨v26, rfl, rfl⟩⟩ | ⟨y24, e25, ⟨b57, a58, p59, n60, a62, p63, n64, b66, a67, p68, n69, b71, a72, p73, n74, a76, p77, n78, a80, p81, n82, a84, p85, n86, a88, p89, n90, v92, rfl, rfl⟩⟩
 ·replace hs := bk hk ct1 rfl
  replace H := mc_n e25 H
  refine st 8 [] (k_op (nS (e := 5) hs .i (tInt .u8) ([107] : List Int) [.int .u8 107] 1 (.int .u8 0) (Reps.int (I := (Cl.G .i E.B I)) (k := .u8) (l := [107])) ?_))
  intro b28 h hs
  refine k_op (cvO (e := 5) hs ?_)
  intro I h hs
  obtain ⟨hk, bk⟩ := hs.call tk0 (.c (qI d0) .n)
  refine k_call H (fun _ m => side_NewHost.calls m hk) ?_
  rintro t30 _ h H ⟨I, _, ⟨b31, a32, p33, n34, a36, p37, n38, b40, a41, p42, n43, b45, a46, p47, n48, a50, p51, n52, rfl, rfl⟩, hk⟩
  replace hs := bk hk (.s (.s ct6)) rfl
  cases hs.nR d1
  cases hs.nR d2
  cases hs.nO d4
  cases hs.nO d6
  cases hs.nO d7
  rcases (hs.er d9).cases with ⟨c54, rfl⟩ | ⟨c54, t55, u56, rfl⟩
  ·rw [if_pos c54] at H
   obtain rfl := si H
   exact st 21 [true] (k_retQ ⟨_, by kernel_rfl, I, _, ⟨rfl, rfl⟩, hs.pk .n⟩)
  rw [if_neg c54] at H
  obtain rfl := si H
  exact st 21 [true] (k_retQ ⟨_, by kernel_rfl, I, _, ⟨rfl, rfl⟩, hs.pk .n⟩)
 replace hs := bk hk (.s (.s (.s (.s (.s (.s ct6)))))) rfl
 cases hs.nR d1
 cases hs.nR d2
 cases hs.nO d4
 cases hs.nO d6
 cases hs.nR d7
 cases hs.nO d8
 cases hs.nO d9
 cases hs.nO d10
 replace H := mc_s e25 H
 refine st 8 [] (k_op (nS (e := 5) hs .i (tInt .u8) ([107] : List Int) [.int .u8 107] 1 (.int .u8 0) (Reps.int (I := (Cl.G .i E.B I)) (k := .u8) (l := [107])) ?_))
 intro b94 h hs
 refine k_op (cvO (e := 5) hs ?_)
 intro I h hs
 obtain ⟨hk, bk⟩ := hs.call tk0 (.c (qI d0) .n)
 refine k_call H (fun _ m => side_NewHost.calls m hk) ?_
 rintro t96 _ h H ⟨I, _, ⟨b97, a98, p99, n100, a102, p103, n104, b106, a107, p108, n109, b111, a112, p113, n114, a116, p117, n118, rfl, rfl⟩, hk⟩
 replace hs := bk hk (.s (.s ct6)) rfl
 cases hs.nR d1
 cases hs.nR d2
 cases hs.nO d4
 cases hs.nO d6
 cases hs.nO d7
 rcases (hs.er d20).cases with ⟨c120, rfl⟩ | ⟨c120, t121, u122, rfl⟩
 rotate_left
 ·rw [if_neg c120] at H
  obtain rfl := si H
  exact st 21 [true] (k_retQ ⟨_, by kernel_rfl, I, _, ⟨rfl, rfl⟩, hs.pk .n⟩)
 rw [if_pos c120] at H
 refine st 19 [false] ?_
 obtain ⟨j184, e313, H⟩ := letJ_some H
 refine k_joinT (fun T ρ h => ∃ (x147 : Bool) (x148 : GoErr) (x151 : side_Client), ∃ v149 a152 p153 n154 a156 p157 n158 a160 p161 n162 a164 p165 n166 a168 p169 n170 a172 p173 n174 a176 p177 n178 a180 p181 n182 I, j184 x147 x148 x151 = some r ∧ Fits [(1, pv b57), (3, pv b97), (4, .bool x147), (5, v149)] ρ ∧ St E (rE .i v149 x148 :: rB b57 [.slice a152 n154 p153, .slice a156 n158 p157, iv x151.side'.gate'.Dir, iv x151.side'.gate'.Seen.Top, .int .u64 x151.side'.gate'.Seen.Bits, .string x151.side'.gate'.Peer.Addr, iv x151.side'.gate'.Peer.Seq, pv b66, iv x151.side'.dir', iv x151.side'.seq', iv x151.s'.Rows, iv x151.s'.Cols, .slice a168 n170 p169, iv x151.s'.Cursor, .bool x151.s'.Locked, .bool x151.s'.Insert, .slice a172 n174 p173, .slice a176 n178 p177, .slice a180 n182 p181] 78 :: rR (tInt .u8) .i a152 p153 n154 x151.side'.key' :: rR (tInt .u8) .i a156 p157 n158 x151.side'.gate'.Key :: rB b66 [.slice a160 n162 p161, iv x151.side'.line'.given', iv x151.side'.line'.await', .map (some b71), .slice a164 n166 p165, iv x151.side'.line'.wait', iv x151.side'.line'.left', .bool x151.side'.line'.owes'] 239 :: rO t_api_Pack .i a160 p161 n162 x151.side'.line'.queue' :: rM t_api_Pack b71 x151.side'.line'.kept' :: rO (tInt .u8) .i a164 p165 n166 x151.side'.line'.coming' :: rR t_api_Cell .i a168 p169 n170 x151.s'.Cells :: rO (tSl (tInt .u8)) .i a172 p173 n174 x151.todo' :: rO (tSl (tInt .u8)) .i a176 p177 n178 x151.sent' :: rO t_api_Event .i a180 p181 n182 x151.events' :: rR (tInt .u8) .i a98 p99 t96.side'.key'.length t96.side'.key' :: rR (tInt .u8) .i a102 p103 t96.side'.gate'.Key.length t96.side'.gate'.Key :: rO (tSl (tInt .u8)) .i a116 p117 t96.got'.length t96.got' :: rB b97 [.slice a98 t96.side'.key'.length p99, .slice a102 t96.side'.gate'.Key.length p103, iv t96.side'.gate'.Dir, iv t96.side'.gate'.Seen.Top, .int .u64 t96.side'.gate'.Seen.Bits, .string t96.side'.gate'.Peer.Addr, iv t96.side'.gate'.Peer.Seq, pv b106, iv t96.side'.dir', iv t96.side'.seq', .slice a116 t96.got'.length p117] 118 :: rO t_api_Pack .i a107 p108 t96.side'.line'.queue'.length t96.side'.line'.queue' :: rM t_api_Pack b111 t96.side'.line'.kept' :: rO (tInt .u8) .i a112 p113 t96.side'.line'.coming'.length t96.side'.line'.coming' :: rB b106 [.slice a107 t96.side'.line'.queue'.length p108, iv t96.side'.line'.given', iv t96.side'.line'.await', .map (some b111), .slice a112 t96.side'.line'.coming'.length p113, iv t96.side'.line'.wait', iv t96.side'.line'.left', .bool t96.side'.line'.owes'] 239 :: T) I h) hs (.s (.s (.s (.s (.s (.s (.s (.s (.s (.s (.s tl9))))))))))) ?_ ?_
 ·obtain ⟨hk, bk⟩ := (((((((hs.f d19).f d19).f d17).f d17).f d17).f d17).f d15).call (.s tk6) (.c (qK d11) (.c (gK d15) .n))
  refine st 3 [] (k_call H (fun _ m => side_Client_Key.calls m hk) ?_)
  rintro t123 _ h H ⟨I, _, ⟨v124, a126, p127, n128, a130, p131, n132, a134, p135, n136, a138, p139, n140, a142, p143, n144, rfl, rfl⟩, hk⟩
  replace hs := bk hk (.s (.s (.s ct6))) rfl
  cases hs.nO d3
  cases hs.nO d5
  cases hs.nR d6
  cases hs.nO d7
  cases hs.nO d8
  refine st 1 [] (k_if H (fun c146 H => ?_) (fun c146 H => ?_))
  ·exact st 4 [] (k_end ⟨true, t123.2.1, (⟨(⟨y24.side'.key', (⟨y24.side'.gate'.Key, t123.2.2.side'.gate'.Dir, t123.2.2.side'.gate'.Seen, t123.2.2.side'.gate'.Peer⟩ : roam_Gate), t123.2.2.side'.line', t123.2.2.side'.dir', t123.2.2.side'.seq'⟩ : side_side), t123.2.2.s', y24.todo', t123.2.2.sent', t123.2.2.events'⟩ : side_Client), v124, a58, p59, y24.side'.key'.length, a62, p63, y24.side'.gate'.Key.length, a126, p127, t123.2.2.side'.line'.queue'.length, a130, p131, t123.2.2.side'.line'.coming'.length, a134, p135, t123.2.2.s'.Cells.length, a80, p81, y24.todo'.length, a138, p139, t123.2.2.sent'.length, a142, p143, t123.2.2.events'.length, I, H, ft, hs.pk (.c d0 (.c d0 (.c d16 (.c d16 (.c d0 (.c d0 (.c d0 (.c d0 (.c d0 (.c d12 (.c d0 (.c d0 (.c d1 (.c d1 (.c d5 (.c d0 (.c d1 (.c d1 (.c d1 (.c d0 pk2))))))))))))))))))))⟩)
  exact st 4 [] (k_end ⟨false, t123.2.1, (⟨(⟨y24.side'.key', (⟨y24.side'.gate'.Key, t123.2.2.side'.gate'.Dir, t123.2.2.side'.gate'.Seen, t123.2.2.side'.gate'.Peer⟩ : roam_Gate), t123.2.2.side'.line', t123.2.2.side'.dir', t123.2.2.side'.seq'⟩ : side_side), t123.2.2.s', y24.todo', t123.2.2.sent', t123.2.2.events'⟩ : side_Client), v124, a58, p59, y24.side'.key'.length, a62, p63, y24.side'.gate'.Key.length, a126, p127, t123.2.2.side'.line'.queue'.length, a130, p131, t123.2.2.side'.line'.coming'.length, a134, p135, t123.2.2.s'.Cells.length, a80, p81, y24.todo'.length, a138, p139, t123.2.2.sent'.length, a142, p143, t123.2.2.events'.length, I, H, ft, hs.pk (.c d0 (.c d0 (.c d16 (.c d16 (.c d0 (.c d0 (.c d0 (.c d0 (.c d0 (.c d12 (.c d0 (.c d0 (.c d1 (.c d1 (.c d5 (.c d0 (.c d1 (.c d1 (.c d1 (.c d0 pk2))))))))))))))))))))⟩)
 clear H
 rintro ρ h ⟨x147, x148, x151, v149, a152, p153, n154, a156, p157, n158, a160, p161, n162, a164, p165, n166, a168, p169, n170, a172, p173, n174, a176, p177, n178, a180, p181, n182, I, H, hf, hs⟩
 refine k_fits _ hf ?_ rfl
 subst e313
 try dsimp only at H
 cases hs.nR d2
 cases hs.nR d3
 cases hs.nO d5
 cases hs.nO d7
 cases hs.nR d8
 cases hs.nO d9
 cases hs.nO d10
 cases hs.nO d11
 obtain ⟨hk, bk⟩ := ((((((((hs.f d11).f d11).f d11).f d10).f d10).f d10).f d10).f d8).call (.s (.s tk6)) (.c (qK d1) (.c (qK d3) .n))
 refine st 3 [] (k_call H (fun _ m => side_Client_Tick.calls m hk) ?_)
 rintro t185 _ h H ⟨I, _, ⟨a186, p187, n188, a190, p191, n192, a194, p195, n196, a198, p199, n200, a202, p203, n204, a206, p207, n208, a210, p211, n212, a214, p215, n216, rfl, rfl⟩, hk⟩
 replace hs := bk hk (.s (.s (.s (.s (.s ct6))))) rfl
 cases hs.nO d0
 cases hs.nR d2
 cases hs.nO d4
 cases hs.nO d6
 cases hs.nR d7
 cases hs.nO d8
 cases hs.nO d9
 cases hs.nO d10
 rcases (hs.er d11).cases with ⟨c218, rfl⟩ | ⟨c218, t219, u220, rfl⟩
 rotate_left
 ·rw [if_neg c218] at H
  obtain rfl := si H
  exact st 30 [true] (k_retQ ⟨_, by kernel_rfl, I, _, ⟨rfl, rfl⟩, hs.pk .n⟩)
 rw [if_pos c218] at H
 refine st 8 [] (k_if H (fun c221 H => ?_) (fun c221 H => ?_))
 rotate_left
 ·obtain rfl := si H
  exact st 21 [true] (k_retQ ⟨_, by kernel_rfl, I, _, ⟨rfl, rfl⟩, hs.pk .n⟩)
 refine st 5 [] (k_iteN H (fun c222 H => ?_) (fun c222 H => ?_))
 rotate_left
 ·obtain rfl := si H
  exact st 15 [true] (k_retQ ⟨_, by kernel_rfl, I, _, ⟨rfl, rfl⟩, hs.pk .n⟩)
 obtain ⟨c223, H⟩ := guard_pos H
 refine st 4 [] (k_val (elemPtr a186 ((0 : Int).toNat * 1)) (pI (e := 31) (ik := .i64) (hs.sO d0) (by decide) c223) ?_)
 obtain ⟨y225, g224, q226⟩ := (hs.sO d0).toSl.seg (by decide) c223
 obtain ⟨a227, p228, n229, rfl, q231⟩ := rep_sl q226
 obtain rfl := q231.2
 replace hs := hs.pR q231
 refine k_op (lC (seg_cell (f := 0) g224 rfl) ?_)
 obtain ⟨hk, bk⟩ := ((((((hs.f d18).f d22).f d22).f d22).f d23).f d23).call tk6 (.c (qK d17) (.c (qI d0) .n))
 refine k_call H (fun _ m => side_Host_Hear.calls m hk) ?_
 rintro t232 v233 h H ⟨I, _, ⟨_, a235, p236, n237, a239, p240, n241, a243, p244, n245, a247, p248, n249, rfl, rfl⟩, hk⟩
 replace hs := bk hk (.s (.s ct6)) rfl
 cases hs.nR d2
 cases hs.nO d4
 cases hs.nO d6
 cases hs.nO d7
 rcases (hs.er d0).cases with ⟨c251, rfl⟩ | ⟨c251, t252, u253, rfl⟩
 rotate_left
 ·rw [if_neg c251] at H
  obtain rfl := si H
  exact st 8 [true] (k_retQ ⟨_, by kernel_rfl, I, _, ⟨rfl, rfl⟩, hs.pk .n⟩)
 rw [if_pos c251] at H
 obtain ⟨hk, bk⟩ := ((hs.f d7).f d2).call tk2 .n
 refine st 8 [false] (k_call H (fun _ m => side_Host_Got.calls m hk) ?_)
 rintro t254 _ h H ⟨I, _, ⟨a255, p256, n257, a259, p260, n261, rfl, rfl⟩, hk⟩
 replace hs := bk hk ct3 rfl
 cases hs.nO d0
 cases hs.nO d2
 refine st 6 [] (k_ite H (fun c263 H => ?_) (fun c263 H => ?_))
 rotate_left
 ·obtain rfl := si H
  exact st 50 [] (k_retQ ⟨_, by kernel_rfl, I, _, ⟨rfl, rfl⟩, hs.pk .n⟩)
 obtain ⟨c264, H⟩ := guard_pos H
 refine st 2 [] (k_val (elemPtr a255 ((0 : Int).toNat * 1)) (pI (e := 31) (ik := .i64) (hs.sO d0) (by decide) c264) ?_)
 obtain ⟨y266, g265, q267⟩ := (hs.sO d0).toSl.seg (by decide) c264
 obtain ⟨a268, p269, n270, rfl, q272⟩ := rep_sl q267
 obtain rfl := q272.2
 replace hs := hs.pR q272
 refine k_op (lC (seg_cell (f := 0) g265 rfl) ?_)
 refine st 1 [] (k_ite H (fun c273 H => ?_) (fun c273 H => ?_))
 rotate_left
 ·obtain rfl := si H
  exact st 44 [] (k_retQ ⟨_, by kernel_rfl, I, _, ⟨rfl, rfl⟩, hs.pk .n⟩)
 refine st 3 [] (k_val (elemPtr a255 ((0 : Int).toNat * 1)) (pI (e := 31) (ik := .i64) (hs.sO d1) (by decide) c264) ?_)
 refine k_op (lC (seg_cell (f := 0) g265 rfl) ?_)
 obtain ⟨c274, H⟩ := guard_pos H
 refine k_val (elemPtr a268 ((0 : Int).toNat * 1)) (pI (e := 5) (ik := .i64) (hs.sR d0) (by decide) c274) ?_
 refine k_op (lC ((hs.sR d0).cell1 (by decide) c274) ?_)
 refine k_ite H (fun c275 H => ?_) (fun c275 H => ?_)
 rotate_left
 ·obtain rfl := si H
  exact st 36 [] (k_retQ ⟨_, by kernel_rfl, I, _, ⟨rfl, rfl⟩, hs.pk .n⟩)
 refine st 3 [] (k_val (elemPtr a255 ((0 : Int).toNat * 1)) (pI (e := 31) (ik := .i64) (hs.sO d1) (by decide) c264) ?_)
 refine k_op (lC (seg_cell (f := 0) g265 rfl) ?_)
 obtain ⟨c276, H⟩ := guard_pos H
 refine k_val (elemPtr a268 ((1 : Int).toNat * 1)) (pI (e := 5) (ik := .i64) (hs.sR d0) (by decide) c276) ?_
 refine k_op (lC ((hs.sR d0).cell1 (by decide) c276) ?_)
 refine k_ite H (fun c277 H => ?_) (fun c277 H => ?_)
 rotate_left
 ·obtain rfl := si H
  exact st 28 [] (k_retQ ⟨_, by kernel_rfl, I, _, ⟨rfl, rfl⟩, hs.pk .n⟩)
 obtain ⟨hk, bk⟩ := (hs.f d2).call tk1 .n
 refine st 5 [] (k_call H (fun _ m => side_side_Peer.calls m hk) ?_)
 rintro t278 _ h H ⟨I, _, ⟨rfl, rfl⟩, hk⟩
 replace hs := bk hk ct1 rfl
 rcases bool_or ((t278.1.Addr == (⟨#[120]⟩ : ByteArray)) && ((t278.1.Seq == 1) && true)) with c279 | c279
 ·replace H := bif_f c279 H
  refine st 1 [] (k_op (owp_run (.bool false) (run_bool (run_eqAgg (xs := #[.string t278.1.Addr, iv t278.1.Seq]) (ys := #[.string (⟨#[120]⟩ : ByteArray), iv 1]) (by kernel_rfl) (by kernel_rfl) (by kernel_rfl) (eqB_run (b := ((t278.1.Addr == (⟨#[120]⟩ : ByteArray)) && ((t278.1.Seq == 1) && true))) (by kernel_rfl))) c279) ?_))
  obtain rfl := si H
  exact st 20 [] (k_retQ ⟨_, by kernel_rfl, I, _, ⟨rfl, rfl⟩, hs.pk .n⟩)
 replace H := bif_t c279 H
 refine st 1 [] (k_op (owp_run (.bool true) (run_bool (run_eqAgg (xs := #[.string t278.1.Addr, iv t278.1.Seq]) (ys := #[.string (⟨#[120]⟩ : ByteArray), iv 1]) (by kernel_rfl) (by kernel_rfl) (by kernel_rfl) (eqB_run (b := ((t278.1.Addr == (⟨#[120]⟩ : ByteArray)) && ((t278.1.Seq == 1) && true))) (by kernel_rfl))) c279) ?_))
 obtain ⟨hk, bk⟩ := ((((((hs.f d19).f d18).f d18).f d18).f d18).f d17).call tk6 .n
 refine st 3 [] (k_call H (fun _ m => side_Client_Waits.calls m hk) ?_)
 rintro t280 _ h H ⟨I, _, ⟨a281, p282, n283, a285, p286, n287, a289, p290, n291, rfl, rfl⟩, hk⟩
 replace hs := bk hk ct6 rfl
 cases hs.nO d2
 cases hs.nO d4
 cases hs.nO d5
 refine k_ite H (fun c293 H => ?_) (fun c293 H => ?_)
 rotate_left
 ·obtain rfl := si H
  exact st 15 [] (k_retQ ⟨_, by kernel_rfl, I, _, ⟨rfl, rfl⟩, hs.pk .n⟩)
 obtain ⟨hk, bk⟩ := ((hs.f d20).f d1).call tk2 .n
 refine st 3 [] (k_call H (fun _ m => side_Client_Sent.calls m hk) ?_)
 rintro t294 _ h H ⟨I, _, ⟨a295, p296, n297, a299, p300, n301, rfl, rfl⟩, hk⟩
 replace hs := bk hk ct3 rfl
 cases hs.nO d0
 cases hs.nO d2
 refine st 1 [] (k_ite H (fun c303 H => ?_) (fun c303 H => ?_))
 rotate_left
 ·obtain rfl := si H
  exact st 9 [] (k_retQ ⟨_, by kernel_rfl, I, _, ⟨rfl, rfl⟩, hs.pk .n⟩)
 obtain ⟨hk, bk⟩ := ((hs.f d22).f d2).call tk2 .n
 refine st 3 [] (k_call H (fun _ m => side_Client_Events.calls m hk) ?_)
 rintro t304 _ h H ⟨I, _, ⟨a305, p306, n307, a309, p310, n311, rfl, rfl⟩, hk⟩
 replace hs := bk hk ct3 rfl
 cases hs.nO d0
 cases hs.nO d2
 obtain rfl := si H
 exact st 5 [] (k_retQ ⟨_, by kernel_rfl, I, _, ⟨rfl, rfl⟩, hs.pk .n⟩)
def shutterref10_Sized.m (x0 : Int) (x1 : Int) : Option Bool :=
  (if x0 ≥ 1 then (if x1 ≥ 1 then (if x0 ≤ 16383 then (if x1 ≤ 16383 then (some (decide ((w64 (x0 * x1)) ≤ 16383))) else (some false)) else (some false)) else (some false)) else (some false))
theorem shutterref10_Sized.calls {x0 : Int} {x1 : Int} {h : Heap} {r : Bool} (H : shutterref10_Sized.m x0 x1 = some r)   :
    Ret Tryz.prog 24 #[iv x0, iv x1] h (fun v h' => .bool r = v ∧ h' = h) := by
 unfold shutterref10_Sized.m at H
 refine fn_of (rs := [.tmp 4]) (N := 25) Tryz.func24 rfl rfl rfl rfl ?_
 refine st 7 [] (k_ite H (fun c21 H => ?_) (fun c21 H => ?_))
 rotate_left
 ·obtain rfl := si H
  exact st 20 [] (k_retQ ⟨_, by kernel_rfl, rfl, rfl⟩)
 refine st 2 [] (k_ite H (fun c22 H => ?_) (fun c22 H => ?_))
 rotate_left
 ·obtain rfl := si H
  exact st 17 [] (k_retQ ⟨_, by kernel_rfl, rfl, rfl⟩)
 refine st 3 [] (k_ite H (fun c23 H => ?_) (fun c23 H => ?_))
 rotate_left
 ·obtain rfl := si H
  exact st 13 [] (k_retQ ⟨_, by kernel_rfl, rfl, rfl⟩)
 refine st 3 [] (k_ite H (fun c24 H => ?_) (fun c24 H => ?_))
 ·obtain rfl := si H
  exact st 9 [] (k_retQ ⟨_, by kernel_rfl, rfl, rfl⟩)
 obtain rfl := si H
 exact st 9 [] (k_retQ ⟨_, by kernel_rfl, rfl, rfl⟩)
def shutterref10_Same.l1.m (K : Nat) (x0 : api_Screen) (x1 : api_Screen) : Nat → Int → Option (Bool ⊕ (Unit))
  | 0, _ => none
  | k + 1, x37 => (if x37 < (x0.Cells.length : Int) then (if 0 ≤ x37 then (if x37 < (x1.Cells.length : Int) then (bif (((at_ x0.Cells x37).Field == (at_ x1.Cells x37).Field) && (((((at_ x0.Cells x37).Attr).Protected == ((at_ x1.Cells x37).Attr).Protected) && ((((at_ x0.Cells x37).Attr).Numeric == ((at_ x1.Cells x37).Attr).Numeric) && ((((at_ x0.Cells x37).Attr).Show == ((at_ x1.Cells x37).Attr).Show) && ((((at_ x0.Cells x37).Attr).Modified == ((at_ x1.Cells x37).Attr).Modified) && true)))) && (((at_ x0.Cells x37).Char == (at_ x1.Cells x37).Char) && true))) then (shutterref10_Same.l1.m K x0 x1 k (w64 (x37 + 1))) else (some (Sum.inl false))) else none) else none) else (some (Sum.inr ())))
def shutterref10_Same.m (K : Nat) (x0 : api_Screen) (x1 : api_Screen) : Option Bool :=
  (if x0.Rows = x1.Rows then (if x0.Cols = x1.Cols then (if x0.Cursor = x1.Cursor then (bif (x0.Locked != x1.Locked) then (some false) else (bif (x0.Insert != x1.Insert) then (some false) else (if (x0.Cells.length : Int) = (x1.Cells.length : Int) then ((shutterref10_Same.l1.m K x0 x1 K 0).bind fun s38 => match s38 with | .inl q => (some q) | .inr _ => (some true)) else (some false)))) else (some false)) else (some false)) else (some false))
theorem shutterref10_Same.calls {B I : Gh} {h : Heap} {K : Nat} {x0 : api_Screen} {x1 : api_Screen} {a21 : Option Addr} {p22 : Nat} {n23 : Nat} {a25 : Option Addr} {p26 : Nat} {n27 : Nat} {r : Bool} (H : shutterref10_Same.m K x0 x1 = some r)  :
    Fc Tryz.prog 25 #[.agg #[iv x0.Rows, iv x0.Cols, .slice a21 n23 p22, iv x0.Cursor, .bool x0.Locked, .bool x0.Insert], .agg #[iv x1.Rows, iv x1.Cols, .slice a25 n27 p26, iv x1.Cursor, .bool x1.Locked, .bool x1.Insert]] [rR t_api_Cell .b a21 p22 n23 x0.Cells, rR t_api_Cell .b a25 p26 n27 x1.Cells] B I h (fun v L => v = .bool r ∧ L = []) := by
 refine fc_of fun E hs => ?_
 unfold shutterref10_Same.m at H
 cases hs.nR d0
 cases hs.nR d1
 refine fn_of (rs := [.tmp 4]) (N := 66) Tryz.func25 rfl rfl rfl rfl ?_
 refine st 2 [] (k_op (nB hs [iv x0.Rows, iv x0.Cols, .slice a21 x0.Cells.length p22, iv x0.Cursor, .bool x0.Locked, .bool x0.Insert] ?_))
 intro b29 h hs
 refine k_op (nB hs [iv x1.Rows, iv x1.Cols, .slice a25 x1.Cells.length p26, iv x1.Cursor, .bool x1.Locked, .bool x1.Insert] ?_)
 intro b30 h hs
 refine st 6 [] (k_op (lB (hs.bl d1) 0 rfl ?_))
 refine st 1 [] (k_op (lB (hs.bl d0) 0 rfl ?_))
 refine k_iteN H (fun c31 H => ?_) (fun c31 H => ?_)
 rotate_left
 ·obtain rfl := si H
  exact st 43 [true] (k_retQ ⟨_, by kernel_rfl, I, _, ⟨rfl, rfl⟩, hs.pk .n⟩)
 refine st 2 [] (k_op (lB (hs.bl d1) 1 rfl ?_))
 refine st 1 [] (k_op (lB (hs.bl d0) 1 rfl ?_))
 refine k_iteN H (fun c32 H => ?_) (fun c32 H => ?_)
 rotate_left
 ·obtain rfl := si H
  exact st 37 [true] (k_retQ ⟨_, by kernel_rfl, I, _, ⟨rfl, rfl⟩, hs.pk .n⟩)
 refine st 3 [] (k_op (lB (hs.bl d1) 3 rfl ?_))
 refine st 1 [] (k_op (lB (hs.bl d0) 3 rfl ?_))
 refine k_iteN H (fun c33 H => ?_) (fun c33 H => ?_)
 rotate_left
 ·obtain rfl := si H
  exact st 30 [true] (k_retQ ⟨_, by kernel_rfl, I, _, ⟨rfl, rfl⟩, hs.pk .n⟩)
 refine st 3 [] (k_op (lB (hs.bl d1) 4 rfl ?_))
 refine st 1 [] (k_op (lB (hs.bl d0) 4 rfl ?_))
 refine k_if H (fun c34 H => ?_) (fun c34 H => ?_)
 ·obtain rfl := si H
  exact st 23 [true] (k_retQ ⟨_, by kernel_rfl, I, _, ⟨rfl, rfl⟩, hs.pk .n⟩)
 refine st 3 [] (k_op (lB (hs.bl d1) 5 rfl ?_))
 refine st 1 [] (k_op (lB (hs.bl d0) 5 rfl ?_))
 refine k_if H (fun c35 H => ?_) (fun c35 H => ?_)
 ·obtain rfl := si H
  exact st 16 [true] (k_retQ ⟨_, by kernel_rfl, I, _, ⟨rfl, rfl⟩, hs.pk .n⟩)
 refine st 3 [] (k_op (lB (hs.bl d1) 2 rfl ?_))
 refine st 2 [] (k_op (lB (hs.bl d0) 2 rfl ?_))
 refine st 1 [] (k_iteN H (fun c36 H => ?_) (fun c36 H => ?_))
 rotate_left
 ·obtain rfl := si H
  exact st 7 [true] (k_retQ ⟨_, by kernel_rfl, I, _, ⟨rfl, rfl⟩, hs.pk .n⟩)
 refine st 10 [false] ?_
 obtain ⟨s38, m40, HR39⟩ := bind_some H
 refine k_loopT hs tl0 0 (fun T k' ρ h => ∃ (x37 : Int), ∃ I, shutterref10_Same.l1.m K x0 x1 k' x37 = some s38 ∧ Fits [(2, pv b29), (3, pv b30), (5, iv x37)] ρ ∧ St E T I h) (fun T ρ h => ∃ I, Sum.inr () = s38 ∧ Fits [] ρ ∧ St E T I h) K ⟨0, I, m40, ft, hs⟩ ?_ rfl ?_
 rotate_left
 ·rintro ρ h ⟨I, rfl, hf, hs⟩
  have H := HR39
  try dsimp only at H
  refine k_fits _ hf ?_ rfl
  obtain rfl := si H
  exact st 4 [] (k_retQ ⟨_, by kernel_rfl, I, _, ⟨rfl, rfl⟩, hs.pk .n⟩)
 clear m40 H
 rintro k' ρ h ⟨x37, I, H, hf, hs⟩
 cases k' with
 | zero => cases H
 | succ k =>
  rw [shutterref10_Same.l1.m] at H
  refine k_fits _ hf ?_ rfl
  refine st 5 [] (k_op (lB (hs.bl d1) 2 rfl ?_))
  refine st 1 [] (k_ite H (fun c41 H => ?_) (fun c41 H => ?_))
  rotate_left
  ·refine st 2 [false] (k_out rfl ?_)
   obtain rfl := si H
   exact xE ⟨I, rfl, trivial, hs⟩
  refine st 6 [true] ?_
  obtain ⟨hs0, bk0⟩ := hs.call tk0 (.c (qL d1) (.c (qB d2) (.c (qL d0) (.c (qB d3) .n))))
  have hs := hs0
  refine k_regD hs0 11 ?_
  refine aRun [0] 10 hs.keep ?_
  refine aL 1 rfl hs.keep (ll hs0 d0 (n := 2) rfl) (nmL hs0 d0) ?_
  obtain ⟨c42, H⟩ := guard_pos H
  refine aRun [2] 8 hs.keep ?_
  refine aP 3 (elemPtr a21 (x37.toNat * 6)) rfl (pI (e := 89) (ik := .i64) (hs.sR d1) c42 c41) hs.keep ?_
  obtain ⟨y44, g43, q45⟩ := (hs0.sR d1).toSl.seg c42 c41
  obtain rfl := t_api_Cell.open_ q45
  refine aG 4 rfl hs.keep g43 (nmR hs0 d1 c42 c41) ?_
  refine aRun [5] 5 hs.keep ?_
  refine aL 6 rfl hs.keep (ll hs0 d2 (n := 2) rfl) (nmL hs0 d2) ?_
  obtain ⟨c46, H⟩ := guard_pos H
  refine aRun [7] 3 hs.keep ?_
  refine aP 8 (elemPtr a25 (x37.toNat * 6)) rfl (pI (e := 89) (ik := .i64) (hs.sR d3) c42 c46) hs.keep ?_
  obtain ⟨y48, g47, q49⟩ := (hs0.sR d3).toSl.seg c42 c46
  obtain rfl := t_api_Cell.open_ q49
  refine aG 9 rfl hs.keep g47 (nmR hs0 d3 c42 c46) ?_
  rcases bool_or (((at_ x0.Cells x37).Field == (at_ x1.Cells x37).Field) && (((((at_ x0.Cells x37).Attr).Protected == ((at_ x1.Cells x37).Attr).Protected) && ((((at_ x0.Cells x37).Attr).Numeric == ((at_ x1.Cells x37).Attr).Numeric) && ((((at_ x0.Cells x37).Attr).Show == ((at_ x1.Cells x37).Attr).Show) && ((((at_ x0.Cells x37).Attr).Modified == ((at_ x1.Cells x37).Attr).Modified) && true)))) && (((at_ x0.Cells x37).Char == (at_ x1.Cells x37).Char) && true))) with c50 | c50
  ·replace H := bif_f c50 H
   refine awp_runv 10 (.bool true) rfl (by kernel_rfl) (by kernel_rfl) (run_bool (run_neAgg (xs := #[.bool ((at_ x0.Cells x37).Field), .bool (((at_ x0.Cells x37).Attr).Protected), .bool (((at_ x0.Cells x37).Attr).Numeric), iv (((at_ x0.Cells x37).Attr).Show), .bool (((at_ x0.Cells x37).Attr).Modified), .int .u8 ((at_ x0.Cells x37).Char)]) (ys := #[.bool ((at_ x1.Cells x37).Field), .bool (((at_ x1.Cells x37).Attr).Protected), .bool (((at_ x1.Cells x37).Attr).Numeric), iv (((at_ x1.Cells x37).Attr).Show), .bool (((at_ x1.Cells x37).Attr).Modified), .int .u8 ((at_ x1.Cells x37).Char)]) (by kernel_rfl) (by kernel_rfl) (by kernel_rfl) (eqB_run (b := (((at_ x0.Cells x37).Field == (at_ x1.Cells x37).Field) && (((((at_ x0.Cells x37).Attr).Protected == ((at_ x1.Cells x37).Attr).Protected) && ((((at_ x0.Cells x37).Attr).Numeric == ((at_ x1.Cells x37).Attr).Numeric) && ((((at_ x0.Cells x37).Attr).Show == ((at_ x1.Cells x37).Attr).Show) && ((((at_ x0.Cells x37).Attr).Modified == ((at_ x1.Cells x37).Attr).Modified) && true)))) && (((at_ x0.Cells x37).Char == (at_ x1.Cells x37).Char) && true)))) (by kernel_rfl))) (notB c50)) hs.keep ?_
   replace hs := hs.pk .n
   replace hs := bk0 hs ct0 rfl
   refine aEnd ?_
   refine st 5 [true] (k_retQ (krL ?_))
   obtain rfl := si H
   obtain rfl := Option.some.inj HR39
   exact ⟨_, by kernel_rfl, I, _, ⟨rfl, rfl⟩, hs.pk .n⟩
  replace H := bif_t c50 H
  refine awp_runv 10 (.bool false) rfl (by kernel_rfl) (by kernel_rfl) (run_bool (run_neAgg (xs := #[.bool ((at_ x0.Cells x37).Field), .bool (((at_ x0.Cells x37).Attr).Protected), .bool (((at_ x0.Cells x37).Attr).Numeric), iv (((at_ x0.Cells x37).Attr).Show), .bool (((at_ x0.Cells x37).Attr).Modified), .int .u8 ((at_ x0.Cells x37).Char)]) (ys := #[.bool ((at_ x1.Cells x37).Field), .bool (((at_ x1.Cells x37).Attr).Protected), .bool (((at_ x1.Cells x37).Attr).Numeric), iv (((at_ x1.Cells x37).Attr).Show), .bool (((at_ x1.Cells x37).Attr).Modified), .int .u8 ((at_ x1.Cells x37).Char)]) (by kernel_rfl) (by kernel_rfl) (by kernel_rfl) (eqB_run (b := (((at_ x0.Cells x37).Field == (at_ x1.Cells x37).Field) && (((((at_ x0.Cells x37).Attr).Protected == ((at_ x1.Cells x37).Attr).Protected) && ((((at_ x0.Cells x37).Attr).Numeric == ((at_ x1.Cells x37).Attr).Numeric) && ((((at_ x0.Cells x37).Attr).Show == ((at_ x1.Cells x37).Attr).Show) && ((((at_ x0.Cells x37).Attr).Modified == ((at_ x1.Cells x37).Attr).Modified) && true)))) && (((at_ x0.Cells x37).Char == (at_ x1.Cells x37).Char) && true)))) (by kernel_rfl))) (notB c50)) hs.keep ?_
  replace hs := hs.pk .n
  replace hs := bk0 hs ct0 rfl
  refine aEnd ?_
  exact st 8 [false] (k_endL ⟨k, Nat.lt_succ_self _, (w64 (x37 + 1)), I, H, ft, hs⟩)
def side_Client_Screen.m (x0 : side_Client) : Option (api_Screen × side_Client) :=
  ((grid_Copy.m x0.s').bind fun t32 => (some (t32, x0)))
theorem side_Client_Screen.calls {B I : Gh} {h : Heap} {x0 : side_Client} {b0 : Nat} {v21 : Value} {v22 : Value} {v23 : Value} {a24 : Option Addr} {p25 : Nat} {n26 : Nat} {v28 : Value} {v29 : Value} {v30 : Value} {r : (api_Screen × side_Client)} (H : side_Client_Screen.m x0 = some r)  :
    Fc Tryz.prog 26 #[pv b0] [rB b0 [v21, v22, iv x0.side'.gate'.Dir, iv x0.side'.gate'.Seen.Top, .int .u64 x0.side'.gate'.Seen.Bits, .string x0.side'.gate'.Peer.Addr, iv x0.side'.gate'.Peer.Seq, v23, iv x0.side'.dir', iv x0.side'.seq', iv x0.s'.Rows, iv x0.s'.Cols, .slice a24 n26 p25, iv x0.s'.Cursor, .bool x0.s'.Locked, .bool x0.s'.Insert, v28, v29, v30] 78, rR t_api_Cell .i a24 p25 n26 x0.s'.Cells] B I h (fun v L => ∃ a37 p38 n39 a41 p42 n43, v = .agg #[iv r.1.Rows, iv r.1.Cols, .slice a37 n39 p38, iv r.1.Cursor, .bool r.1.Locked, .bool r.1.Insert] ∧ L = [rO t_api_Cell .i a37 p38 n39 r.1.Cells, rB b0 [v21, v22, iv r.2.side'.gate'.Dir, iv r.2.side'.gate'.Seen.Top, .int .u64 r.2.side'.gate'.Seen.Bits, .string r.2.side'.gate'.Peer.Addr, iv r.2.side'.gate'.Peer.Seq, v23, iv r.2.side'.dir', iv r.2.side'.seq', iv r.2.s'.Rows, iv r.2.s'.Cols, .slice a41 n43 p42, iv r.2.s'.Cursor, .bool r.2.s'.Locked, .bool r.2.s'.Insert, v28, v29, v30] 78, rR t_api_Cell .i a41 p42 n43 r.2.s'.Cells]) := by
 refine fc_of fun E hs => ?_
 unfold side_Client_Screen.m at H
 cases hs.nR d1
 refine fn_of2 (rs := [.cell 2 56]) (N := 8) Tryz.func26 rfl rfl rfl rfl ?_
 refine st 2 [] (k_op (nA hs [iv 0, iv 0, .slice none 0 0, iv 0, .bool false, .bool false] (.agg #[iv 0, iv 0, .slice none 0 0, iv 0, .bool false, .bool false]) ?_))
 intro b31 h hs
 refine st 6 [] (k_op (lN (hs.bl d1) 10 6 ?_))
 obtain ⟨hk, bk⟩ := hs.call tk0 (.c (qI d2) .n)
 refine k_call H (fun _ m => grid_Copy.calls m hk) ?_
 rintro t32 _ h H ⟨I, _, ⟨a33, p34, n35, rfl, rfl⟩, hk⟩
 replace hs := bk hk ct1 rfl
 cases hs.nO d0
 refine k_op (sN0 (hs.f d1) [iv t32.Rows, iv t32.Cols, .slice a33 t32.Cells.length p34, iv t32.Cursor, .bool t32.Locked, .bool t32.Insert] (ones_of rfl) ?_)
 intro h hs
 obtain rfl := si H
 exact st 1 [] (k_retQ ⟨[.agg #[iv t32.Rows, iv t32.Cols, .slice a33 t32.Cells.length p34, iv t32.Cursor, .bool t32.Locked, .bool t32.Insert]], (.cons (.agg (by kernel_rfl) (by kernel_rfl) (by kernel_rfl) ((hs.bl d0).seg_ 0 6 (Nat.le_of_ble_eq_true rfl))) .nil), I, _, ⟨a33, p34, t32.Cells.length, a24, p25, x0.s'.Cells.length, rfl, rfl⟩, hs.pk (.c d1 (.c d1 (.c d1 .n)))⟩)
def shutterref25_New.m (x0 : Int) (x1 : Int) : Option shutterref25_Terminal :=
  ((mk (w64 (x0 * x1)) (⟨false, (⟨false, false, 0, false⟩ : api_Attr), 0⟩ : api_Cell)).bind fun l22 => (some (⟨(⟨x0, x1, l22, 0, false, false⟩ : api_Screen), []⟩ : shutterref25_Terminal)))
theorem shutterref25_New.calls {B I : Gh} {h : Heap} {x0 : Int} {x1 : Int} {r : shutterref25_Terminal} (H : shutterref25_New.m x0 x1 = some r)  :
    Fc Tryz.prog 27 #[iv x0, iv x1] [] B I h (fun v L => ∃ a26 p27 n28 a30 p31 n32, v = .agg #[iv r.S.Rows, iv r.S.Cols, .slice a26 n28 p27, iv r.S.Cursor, .bool r.S.Locked, .bool r.S.Insert, .slice a30 n32 p31] ∧ L = [rO t_api_Cell .i a26 p27 n28 r.S.Cells, rO (tSl (tInt .u8)) .i a30 p31 n32 r.Sent]) := by
 refine fc_of fun E hs => ?_
 unfold shutterref25_New.m at H
 refine fn_of2 (rs := [.cell 4 60]) (N := 13) Tryz.func27 rfl rfl rfl rfl ?_
 refine st 2 [] (k_op (nA hs [iv 0, iv 0, .slice none 0 0, iv 0, .bool false, .bool false, .slice none 0 0] (.agg #[iv 0, iv 0, .slice none 0 0, iv 0, .bool false, .bool false, .slice none 0 0]) ?_))
 intro b21 h hs
 obtain ⟨l22, m23, H⟩ := bind_some H
 refine st 8 [] (k_op (nM (e := 89) (kl := .i64) (kc := .i64) (bytes := 40) hs t_api_Cell (⟨false, (⟨false, false, 0, false⟩ : api_Attr), 0⟩ : api_Cell) (.agg #[.bool false, .bool false, .bool false, iv 0, .bool false, .int .u8 0]) m23 (fun _ _ => rfl) ?_))
 intro b24 h hs
 refine st 2 [] (k_op (sN0 (hs.f d1) [iv x0, iv x1, .slice (sa b24) l22.length l22.length, iv 0, .bool false, .bool false, .slice none 0 0] (ones_of rfl) ?_))
 intro h hs
 obtain rfl := si H
 exact st 1 [] (k_retQ ⟨[.agg #[iv x0, iv x1, .slice (sa b24) l22.length l22.length, iv 0, .bool false, .bool false, .slice none 0 0]], (.cons (.agg (by kernel_rfl) (by kernel_rfl) (by kernel_rfl) ((hs.bl d0).seg_ 0 7 (Nat.le_of_ble_eq_true rfl))) .nil), I, _, ⟨(sa b24), l22.length, l22.length, none, 0, 0, rfl, rfl⟩, hs.pk (.c d1 (.f imON .n))⟩)
def shutterlaw25_SideNews.m (K : Nat) (x0 : Int) (x1 : Int) : Option Bool :=
  ((side_NewClient.m [107] x0 x1).bind fun t23 => mcase t23.1 ((shutterlaw25_awake.m K).bind fun t28 => bif t28 then ((shutterref10_Sized.m x0 x1).bind fun t29 => bif t29 then (if (w64 (x0 * x1)) > 2000 then ((api_Code.m t23.2).bind fun t31 => (if t31 = 1 then (some true) else (some false))) else (if t23.2 = GoErr.nil then (some false) else (some false))) else ((api_Code.m t23.2).bind fun t36 => (if t36 = 1 then (some true) else (some false)))) else (some false)) (fun y24 => ((shutterlaw25_awake.m K).bind fun t75 => bif t75 then ((shutterref10_Sized.m x0 x1).bind fun t76 => bif t76 then (if (w64 (x0 * x1)) > 2000 then ((api_Code.m t23.2).bind fun t78 => (if t78 = 1 then (some false) else (some false))) else (if t23.2 = GoErr.nil then ((side_Client_Screen.m y24).bind fun t83 => ((shutterref25_New.m x0 x1).bind fun t92 => ((shutterref10_Same.m K t83.1 t92.S).bind fun t101 => bif t101 then ((side_Client_Sent.m K (⟨(⟨y24.side'.key', (⟨y24.side'.gate'.Key, t83.2.side'.gate'.Dir, t83.2.side'.gate'.Seen, t83.2.side'.gate'.Peer⟩ : roam_Gate), y24.side'.line', t83.2.side'.dir', t83.2.side'.seq'⟩ : side_side), t83.2.s', y24.todo', y24.sent', y24.events'⟩ : side_Client)).bind fun t102 => (if (t102.1.length : Int) = 0 then ((side_Client_Events.m K (⟨(⟨y24.side'.key', (⟨y24.side'.gate'.Key, t102.2.side'.gate'.Dir, t102.2.side'.gate'.Seen, t102.2.side'.gate'.Peer⟩ : roam_Gate), y24.side'.line', t102.2.side'.dir', t102.2.side'.seq'⟩ : side_side), (⟨t102.2.s'.Rows, t102.2.s'.Cols, t83.2.s'.Cells, t102.2.s'.Cursor, t102.2.s'.Locked, t102.2.s'.Insert⟩ : api_Screen), y24.todo', t102.2.sent', y24.events'⟩ : side_Client)).bind fun t112 => (if (t112.1.length : Int) = 0 then ((side_Client_Waits.m (⟨(⟨y24.side'.key', (⟨y24.side'.gate'.Key, t112.2.side'.gate'.Dir, t112.2.side'.gate'.Seen, t112.2.side'.gate'.Peer⟩ : roam_Gate), y24.side'.line', t112.2.side'.dir', t112.2.side'.seq'⟩ : side_side), (⟨t112.2.s'.Rows, t112.2.s'.Cols, t83.2.s'.Cells, t112.2.s'.Cursor, t112.2.s'.Locked, t112.2.s'.Insert⟩ : api_Screen), y24.todo', t102.2.sent', t112.2.events'⟩ : side_Client)).bind fun t122 => (if t122.1 = 0 then ((side_side_Peer.m (⟨y24.side'.key', (⟨y24.side'.gate'.Key, t122.2.side'.gate'.Dir, t122.2.side'.gate'.Seen, t122.2.side'.gate'.Peer⟩ : roam_Gate), t122.2.side'.line', t122.2.side'.dir', t122.2.side'.seq'⟩ : side_side)).bind fun t136 => (some ((t136.1.Addr == (⟨#[]⟩ : ByteArray)) && ((t136.1.Seq == 0) && true)))) else (some false))) else (some false))) else (some false))) else (some false)))) else (some false))) else ((api_Code.m t23.2).bind fun t137 => (if t137 = 1 then (some false) else (some false)))) else (some false))))
theorem shutterlaw25_SideNews.calls {B I : Gh} {h : Heap} {K : Nat} {x0 : Int} {x1 : Int} {r : Bool} (H : shutterlaw25_SideNews.m K x0 x1 = some r)  :
    Fc Tryz.prog 4 #[iv x0, iv x1] [rG] B I h (fun v L => v = .bool r ∧ L = []) := by
 refine fc_of fun E hs => ?_
 unfold shutterlaw25_SideNews.m at H
 refine fn_of (rs := [.tmp 4]) (N := 72) Tryz.func4 rfl rfl rfl rfl ?_
 refine st 6 [] (k_op (nS (e := 5) hs .i (tInt .u8) ([107] : List Int) [.int .u8 107] 1 (.int .u8 0) (Reps.int (I := (Cl.G .i E.B I)) (k := .u8) (l := [107])) ?_))
 intro b21 h hs
 refine k_op (cvO (e := 5) hs ?_)
 intro I h hs
 obtain ⟨hk, bk⟩ := hs.call tk0 (.c (qI d0) .n)
 refine st 2 [] (k_call H (fun _ m => side_NewClient.calls m hk) ?_)
 rintro t23 _ h H ⟨I, _, hout, hk⟩
 rcases hout with ⟨e25, ⟨v26, rfl, rfl⟩⟩ | ⟨y24, e25, ⟨b38, a39, p40, n41, a43, p44, n45, b47, a48, p49, n50, b52, a53, p54, n55, a57, p58, n59, a61, p62, n63, a65, p66, n67, a69, p70, n71, v73, rfl, rfl⟩⟩
 ·replace hs := bk hk ct1 rfl
  replace H := mc_n e25 H
  obtain ⟨hk, bk⟩ := hs.call tk0 (.c (gK d2) .n)
  refine st 9 [] (k_call H (fun _ m => shutterlaw25_awake.calls m hk) ?_)
  rintro t28 _ h H ⟨I, _, ⟨rfl, rfl⟩, hk⟩
  replace hs := bk hk ct0 rfl
  cases t28
  ·rw [cond_false] at H
   obtain rfl := si H
   exact st 7 [true] (k_retQ ⟨_, by kernel_rfl, I, _, ⟨rfl, rfl⟩, hs.pk .n⟩)
  rw [cond_true] at H
  refine st 9 [false] (k_call H (fun _ m => shutterref10_Sized.calls m) ?_)
  rintro t29 _ _ H ⟨rfl, rfl⟩
  cases t29
  ·rw [cond_false] at H
   obtain ⟨hk, bk⟩ := hs.call tk0 (.c (xI d0) (.c (gK d2) .n))
   refine st 12 [true] (k_call H (fun _ m => api_Code.calls m hk) ?_)
   rintro t36 _ h H ⟨I, _, ⟨rfl, rfl⟩, hk⟩
   replace hs := bk hk ct0 rfl
   refine k_ite H (fun c37 H => ?_) (fun c37 H => ?_)
   ·obtain rfl := si H
    exact st 6 [] (k_retQ ⟨_, by kernel_rfl, I, _, ⟨rfl, rfl⟩, hs.pk .n⟩)
   obtain rfl := si H
   exact st 6 [] (k_retQ ⟨_, by kernel_rfl, I, _, ⟨rfl, rfl⟩, hs.pk .n⟩)
  rw [cond_true] at H
  refine st 5 [] (k_ite H (fun c30 H => ?_) (fun c30 H => ?_))
  ·obtain ⟨hk, bk⟩ := hs.call tk0 (.c (xI d0) (.c (gK d2) .n))
   refine st 6 [true] (k_call H (fun _ m => api_Code.calls m hk) ?_)
   rintro t31 _ h H ⟨I, _, ⟨rfl, rfl⟩, hk⟩
   replace hs := bk hk ct0 rfl
   refine k_ite H (fun c32 H => ?_) (fun c32 H => ?_)
   ·obtain rfl := si H
    exact st 6 [] (k_retQ ⟨_, by kernel_rfl, I, _, ⟨rfl, rfl⟩, hs.pk .n⟩)
   obtain rfl := si H
   exact st 6 [] (k_retQ ⟨_, by kernel_rfl, I, _, ⟨rfl, rfl⟩, hs.pk .n⟩)
  rcases (hs.er d0).cases with ⟨c33, rfl⟩ | ⟨c33, t34, u35, rfl⟩
  ·rw [if_pos c33] at H
   obtain rfl := si H
   exact st 19 [false, true] (k_retQ ⟨_, by kernel_rfl, I, _, ⟨rfl, rfl⟩, hs.pk .n⟩)
  rw [if_neg c33] at H
  obtain rfl := si H
  exact st 19 [false, true] (k_retQ ⟨_, by kernel_rfl, I, _, ⟨rfl, rfl⟩, hs.pk .n⟩)
 replace hs := bk hk (.s (.s (.s (.s (.s (.s ct6)))))) rfl
 cases hs.nR d1
 cases hs.nR d2
 cases hs.nO d4
 cases hs.nO d6
 cases hs.nR d7
 cases hs.nO d8
 cases hs.nO d9
 cases hs.nO d10
 replace H := mc_s e25 H
 obtain ⟨hk, bk⟩ := hs.call tk0 (.c (gK d13) .n)
 refine st 9 [] (k_call H (fun _ m => shutterlaw25_awake.calls m hk) ?_)
 rintro t75 _ h H ⟨I, _, ⟨rfl, rfl⟩, hk⟩
 replace hs := bk hk ct0 rfl
 cases t75
 ·rw [cond_false] at H
  obtain rfl := si H
  exact st 7 [true] (k_retQ ⟨_, by kernel_rfl, I, _, ⟨rfl, rfl⟩, hs.pk .n⟩)
 rw [cond_true] at H
 refine st 9 [false] (k_call H (fun _ m => shutterref10_Sized.calls m) ?_)
 rintro t76 _ _ H ⟨rfl, rfl⟩
 cases t76
 ·rw [cond_false] at H
  obtain ⟨hk, bk⟩ := hs.call tk0 (.c (xI d11) (.c (gK d13) .n))
  refine st 12 [true] (k_call H (fun _ m => api_Code.calls m hk) ?_)
  rintro t137 _ h H ⟨I, _, ⟨rfl, rfl⟩, hk⟩
  replace hs := bk hk ct0 rfl
  refine k_ite H (fun c138 H => ?_) (fun c138 H => ?_)
  ·obtain rfl := si H
   exact st 6 [] (k_retQ ⟨_, by kernel_rfl, I, _, ⟨rfl, rfl⟩, hs.pk .n⟩)
  obtain rfl := si H
  exact st 6 [] (k_retQ ⟨_, by kernel_rfl, I, _, ⟨rfl, rfl⟩, hs.pk .n⟩)
 rw [cond_true] at H
 refine st 5 [] (k_ite H (fun c77 H => ?_) (fun c77 H => ?_))
 ·obtain ⟨hk, bk⟩ := hs.call tk0 (.c (xI d11) (.c (gK d13) .n))
  refine st 6 [true] (k_call H (fun _ m => api_Code.calls m hk) ?_)
  rintro t78 _ h H ⟨I, _, ⟨rfl, rfl⟩, hk⟩
  replace hs := bk hk ct0 rfl
  refine k_ite H (fun c79 H => ?_) (fun c79 H => ?_)
  ·obtain rfl := si H
   exact st 6 [] (k_retQ ⟨_, by kernel_rfl, I, _, ⟨rfl, rfl⟩, hs.pk .n⟩)
  obtain rfl := si H
  exact st 6 [] (k_retQ ⟨_, by kernel_rfl, I, _, ⟨rfl, rfl⟩, hs.pk .n⟩)
 rcases (hs.er d11).cases with ⟨c80, rfl⟩ | ⟨c80, t81, u82, rfl⟩
 rotate_left
 ·rw [if_neg c80] at H
  obtain rfl := si H
  exact st 19 [false, true] (k_retQ ⟨_, by kernel_rfl, I, _, ⟨rfl, rfl⟩, hs.pk .n⟩)
 rw [if_pos c80] at H
 obtain ⟨hk, bk⟩ := hs.call tk1 (.c (qK d6) .n)
 refine st 19 [false, false] (k_call H (fun _ m => side_Client_Screen.calls m hk) ?_)
 rintro t83 _ h H ⟨I, _, ⟨a84, p85, n86, a88, p89, n90, rfl, rfl⟩, hk⟩
 replace hs := bk hk ct3 rfl
 cases hs.nO d0
 cases hs.nR d2
 obtain ⟨hk, bk⟩ := hs.call tk0 .n
 refine st 2 [] (k_call H (fun _ m => shutterref25_New.calls m hk) ?_)
 rintro t92 _ h H ⟨I, _, ⟨a93, p94, n95, a97, p98, n99, rfl, rfl⟩, hk⟩
 replace hs := bk hk ct2 rfl
 cases hs.nO d0
 cases hs.nO d1
 obtain ⟨hk, bk⟩ := hs.call tk0 (.c (qO d2) (.c (qO d0) .n))
 refine st 1 [] (k_call H (fun _ m => shutterref10_Same.calls m hk) ?_)
 rintro t101 _ h H ⟨I, _, ⟨rfl, rfl⟩, hk⟩
 replace hs := bk hk ct0 rfl
 cases t101
 ·rw [cond_false] at H
  obtain rfl := si H
  exact st 27 [] (k_retQ ⟨_, by kernel_rfl, I, _, ⟨rfl, rfl⟩, hs.pk .n⟩)
 rw [cond_true] at H
 obtain ⟨hk, bk⟩ := ((hs.f d13).f d4).call tk2 .n
 refine st 2 [] (k_call H (fun _ m => side_Client_Sent.calls m hk) ?_)
 rintro t102 _ h H ⟨I, _, ⟨a103, p104, n105, a107, p108, n109, rfl, rfl⟩, hk⟩
 replace hs := bk hk ct3 rfl
 cases hs.nO d0
 cases hs.nO d2
 refine st 1 [] (k_ite H (fun c111 H => ?_) (fun c111 H => ?_))
 rotate_left
 ·obtain rfl := si H
  exact st 22 [] (k_retQ ⟨_, by kernel_rfl, I, _, ⟨rfl, rfl⟩, hs.pk .n⟩)
 obtain ⟨hk, bk⟩ := ((hs.f d15).f d2).call tk2 .n
 refine st 3 [] (k_call H (fun _ m => side_Client_Events.calls m hk) ?_)
 rintro t112 _ h H ⟨I, _, ⟨a113, p114, n115, a117, p118, n119, rfl, rfl⟩, hk⟩
 replace hs := bk hk ct3 rfl
 cases hs.nO d0
 cases hs.nO d2
 refine st 1 [] (k_ite H (fun c121 H => ?_) (fun c121 H => ?_))
 rotate_left
 ·obtain rfl := si H
  exact st 16 [] (k_retQ ⟨_, by kernel_rfl, I, _, ⟨rfl, rfl⟩, hs.pk .n⟩)
 obtain ⟨hk, bk⟩ := ((((((hs.f d16).f d15).f d15).f d15).f d15).f d6).call tk6 .n
 refine st 3 [] (k_call H (fun _ m => side_Client_Waits.calls m hk) ?_)
 rintro t122 _ h H ⟨I, _, ⟨a123, p124, n125, a127, p128, n129, a131, p132, n133, rfl, rfl⟩, hk⟩
 replace hs := bk hk ct6 rfl
 cases hs.nO d2
 cases hs.nO d4
 cases hs.nO d5
 refine k_ite H (fun c135 H => ?_) (fun c135 H => ?_)
 rotate_left
 ·obtain rfl := si H
  exact st 11 [] (k_retQ ⟨_, by kernel_rfl, I, _, ⟨rfl, rfl⟩, hs.pk .n⟩)
 obtain ⟨hk, bk⟩ := hs.call tk1 .n
 refine st 5 [] (k_call H (fun _ m => side_side_Peer.calls m hk) ?_)
 rintro t136 _ h H ⟨I, _, ⟨rfl, rfl⟩, hk⟩
 replace hs := bk hk ct1 rfl
 refine st 1 [] (k_op (owp_run (.bool ((t136.1.Addr == (⟨#[]⟩ : ByteArray)) && ((t136.1.Seq == 0) && true))) (run_eqAgg (xs := #[.string t136.1.Addr, iv t136.1.Seq]) (ys := #[.string (⟨#[]⟩ : ByteArray), iv 0]) (by kernel_rfl) (by kernel_rfl) (by kernel_rfl) (eqB_run (b := ((t136.1.Addr == (⟨#[]⟩ : ByteArray)) && ((t136.1.Seq == 0) && true))) (by kernel_rfl))) ?_))
 obtain rfl := si H
 exact st 3 [] (k_retQ ⟨_, by kernel_rfl, I, _, ⟨rfl, rfl⟩, hs.pk .n⟩)
end Go.Proofs.YtjkbhpokboolpaaGreatDoor.Sx
