import Derived.Test.YtjkbhpokboolpaaGreatDoorProg
import Derived.Test.YtjkbhpokboolpaaGreatDoorV4
import Derived.Test.YtjkbhpokboolpaaGreatDoorV5
import Derived.Test.YtjkbhpokboolpaaGreatDoorVF
import Derived.Test.YtjkbhpokboolpaaGreatDoorV6
import Derived.Test.YtjkbhpokboolpaaGreatDoorV7
import Derived.Test.YtjkbhpokboolpaaGreatDoorV9
import Derived.Test.YtjkbhpokboolpaaGreatDoorVD
import Derived.Test.YtjkbhpokboolpaaGreatDoorVC
import Derived.Test.YtjkbhpokboolpaaGreatDoorG0
import Derived.Test.YtjkbhpokboolpaaGreatDoorG3
import Derived.Test.YtjkbhpokboolpaaGreatDoorG6
import Derived.Test.YtjkbhpokboolpaaGreatDoorG7
namespace Go.Proofs.YtjkbhpokboolpaaGreatDoor.Sx
open Go
set_option maxRecDepth 100000
set_option maxHeartbeats 4000000
def side_Client_Tick.m (K : Nat) (x0 : side_Client) : Option ((List (List Int)) × side_Client) :=
  ((side_Client_work.m K x0).bind fun t52 => ((side_side_packs.m K (⟨x0.side'.key', (⟨x0.side'.gate'.Key, t52.side'.gate'.Dir, t52.side'.gate'.Seen, t52.side'.gate'.Peer⟩ : roam_Gate), t52.side'.line', t52.side'.dir', t52.side'.seq'⟩ : side_side)).bind fun t77 => (some (t77.1, (⟨(⟨t77.2.key', (⟨x0.side'.gate'.Key, t77.2.gate'.Dir, t77.2.gate'.Seen, t77.2.gate'.Peer⟩ : roam_Gate), t77.2.line', t77.2.dir', t77.2.seq'⟩ : side_side), t52.s', t52.todo', t52.sent', t52.events'⟩ : side_Client)))))
theorem side_Client_Tick.calls {B I : Gh} {h : Heap} {K : Nat} {x0 : side_Client} {b0 : Nat} {a21 : Option Addr} {p22 : Nat} {n23 : Nat} {v25 : Value} {b26 : Nat} {a27 : Option Addr} {p28 : Nat} {n29 : Nat} {b31 : Nat} {a32 : Option Addr} {p33 : Nat} {n34 : Nat} {a36 : Option Addr} {p37 : Nat} {n38 : Nat} {a40 : Option Addr} {p41 : Nat} {n42 : Nat} {a44 : Option Addr} {p45 : Nat} {n46 : Nat} {a48 : Option Addr} {p49 : Nat} {n50 : Nat} {r : ((List (List Int)) × side_Client)} (H : side_Client_Tick.m K x0 = some r)  :
    Fc Tryz.prog 35 #[pv b0] [rB b0 [.slice a21 n23 p22, v25, iv x0.side'.gate'.Dir, iv x0.side'.gate'.Seen.Top, .int .u64 x0.side'.gate'.Seen.Bits, .string x0.side'.gate'.Peer.Addr, iv x0.side'.gate'.Peer.Seq, pv b26, iv x0.side'.dir', iv x0.side'.seq', iv x0.s'.Rows, iv x0.s'.Cols, .slice a36 n38 p37, iv x0.s'.Cursor, .bool x0.s'.Locked, .bool x0.s'.Insert, .slice a40 n42 p41, .slice a44 n46 p45, .slice a48 n50 p49] 78, rB b26 [.slice a27 n29 p28, iv x0.side'.line'.given', iv x0.side'.line'.await', .map (some b31), .slice a32 n34 p33, iv x0.side'.line'.wait', iv x0.side'.line'.left', .bool x0.side'.line'.owes'] 239, rO t_api_Pack .i a27 p28 n29 x0.side'.line'.queue', rM t_api_Pack b31 x0.side'.line'.kept', rO (tInt .u8) .i a32 p33 n34 x0.side'.line'.coming', rO (tSl (tInt .u8)) .i a40 p41 n42 x0.todo', rO (tSl (tInt .u8)) .i a44 p45 n46 x0.sent', rO t_api_Event .i a48 p49 n50 x0.events', rR (tInt .u8) .i a21 p22 n23 x0.side'.key', rR t_api_Cell .i a36 p37 n38 x0.s'.Cells] B I h (fun v L => ∃ a94 p95 n96 a98 p99 n100 a102 p103 n104 a106 p107 n108 a110 p111 n112 a114 p115 n116 a118 p119 n120 a122 p123 n124, v = .slice a94 n96 p95 ∧ L = [rO (tSl (tInt .u8)) .i a94 p95 n96 r.1, rB b0 [.slice a98 n100 p99, v25, iv r.2.side'.gate'.Dir, iv r.2.side'.gate'.Seen.Top, .int .u64 r.2.side'.gate'.Seen.Bits, .string r.2.side'.gate'.Peer.Addr, iv r.2.side'.gate'.Peer.Seq, pv b26, iv r.2.side'.dir', iv r.2.side'.seq', iv r.2.s'.Rows, iv r.2.s'.Cols, .slice a110 n112 p111, iv r.2.s'.Cursor, .bool r.2.s'.Locked, .bool r.2.s'.Insert, .slice a114 n116 p115, .slice a118 n120 p119, .slice a122 n124 p123] 78, rR (tInt .u8) .i a98 p99 n100 r.2.side'.key', rB b26 [.slice a102 n104 p103, iv r.2.side'.line'.given', iv r.2.side'.line'.await', .map (some b31), .slice a106 n108 p107, iv r.2.side'.line'.wait', iv r.2.side'.line'.left', .bool r.2.side'.line'.owes'] 239, rO t_api_Pack .i a102 p103 n104 r.2.side'.line'.queue', rM t_api_Pack b31 r.2.side'.line'.kept', rO (tInt .u8) .i a106 p107 n108 r.2.side'.line'.coming', rR t_api_Cell .i a110 p111 n112 r.2.s'.Cells, rO (tSl (tInt .u8)) .i a114 p115 n116 r.2.todo', rO (tSl (tInt .u8)) .i a118 p119 n120 r.2.sent', rO t_api_Event .i a122 p123 n124 r.2.events']) := by
 refine fc_of fun E hs => ?_
 unfold side_Client_Tick.m at H
 cases hs.nO d2
 cases hs.nO d4
 cases hs.nO d5
 cases hs.nO d6
 cases hs.nO d7
 cases hs.nR d8
 cases hs.nR d9
 refine fn_of (rs := [.tmp 2]) (N := 9) Tryz.func35 rfl rfl rfl rfl ?_
 obtain ⟨hk, bk⟩ := ((((((((hs.f d7).f d7).f d7).f d7).f d7).f d7).f d7).f d7).call (.s (.s tk6)) (.c (qK d1) .n)
 refine st 7 [] (k_call H (fun _ m => side_Client_work.calls m hk) ?_)
 rintro t52 _ h H ⟨I, _, ⟨a53, p54, n55, a57, p58, n59, a61, p62, n63, a65, p66, n67, a69, p70, n71, a73, p74, n75, rfl, rfl⟩, hk⟩
 replace hs := bk hk (.s (.s (.s ct6))) rfl
 cases hs.nO d2
 cases hs.nO d4
 cases hs.nR d5
 cases hs.nO d6
 cases hs.nO d7
 cases hs.nO d8
 obtain ⟨hk, bk⟩ := (((((hs.f d4).f d4).f d4).f d4).f d4).call tk5 (.c (qK d4) .n)
 refine st 6 [] (k_call H (fun _ m => side_side_packs.calls m hk) ?_)
 rintro t77 _ h H ⟨I, _, ⟨a78, p79, n80, a82, p83, n84, a86, p87, n88, a90, p91, n92, rfl, rfl⟩, hk⟩
 replace hs := bk hk (.s ct6) rfl
 cases hs.nO d0
 cases hs.nR d2
 cases hs.nO d4
 cases hs.nO d6
 obtain rfl := si H
 exact st 2 [] (k_retQ ⟨_, by kernel_rfl, I, _, ⟨a78, p79, t77.1.length, a82, p83, t77.2.key'.length, a86, p87, t77.2.line'.queue'.length, a90, p91, t77.2.line'.coming'.length, a61, p62, t52.s'.Cells.length, a65, p66, t52.todo'.length, a69, p70, t52.sent'.length, a73, p74, t52.events'.length, rfl, rfl⟩, hs.pk (.c d0 (.c d0 (.c d0 (.c d0 (.c d0 (.c d0 (.c d0 (.c d0 (.c d0 (.c d0 (.c d0 .n)))))))))))⟩)
def mac_Equal.l1.m (K : Nat) (x0 : (List Int)) (x1 : (List Int)) : Nat → Int → Int → Option (Int)
  | 0, _, _ => none
  | k + 1, x32, x33 => (letJ (α := Bool → Option (Int)) (fun (x39 : Bool) => (bif x39 then (if 0 ≤ x33 then (if x33 < (x0.length : Int) then (if x33 < (x1.length : Int) then (mac_Equal.l1.m K x0 x1 k (bOr .u8 x32 (bXor .u8 (at_ x0 x33) (at_ x1 x33))) (w64 (x33 + 1))) else none) else none) else none) else (some (x32)))) fun (j40 : Bool → Option (Int)) => (if x33 < (x0.length : Int) then (j40 true) else (j40 false)))
def mac_Equal.m (K : Nat) (x0 : (List Int)) (x1 : (List Int)) : Option Bool :=
  (if (x0.length : Int) = (x1.length : Int) then ((mac_Equal.l1.m K x0 x1 K 0 0).bind fun x35 => (some (x35 == 0))) else (some false))
theorem mac_Equal.calls {G : Gh} {K : Nat} {x0 : (List Int)} {x1 : (List Int)} {a21 : Option Addr} {p22 : Nat} {n23 : Nat} {a25 : Option Addr} {p26 : Nat} {n27 : Nat} {h : Heap} {r : Bool} (H : mac_Equal.m K x0 x1 = some r)  (s29 : Sn (tInt .u8) G h a21 p22 n23 x0) (s30 : Sn (tInt .u8) G h a25 p26 n27 x1) :
    Ret Tryz.prog 247 #[.slice a21 n23 p22, .slice a25 n27 p26] h (fun v h' => .bool r = v ∧ h' = h) := by
 unfold mac_Equal.m at H
 obtain rfl := s29.len.symm
 obtain rfl := s30.len.symm
 refine fn_of (rs := [.tmp 4]) (N := 31) Tryz.func247 rfl rfl rfl rfl ?_
 refine st 11 [] (k_iteN H (fun c31 H => ?_) (fun c31 H => ?_))
 rotate_left
 ·obtain rfl := si H
  exact st 6 [true] (k_retQ ⟨_, by kernel_rfl, rfl, rfl⟩)
 refine st 15 [false] ?_
 obtain ⟨s34, m37, HR36⟩ := bind_some H
 refine k_loop 0 (fun k' ρ h1 => ∃ (x32 : Int) (x33 : Int), mac_Equal.l1.m K x0 x1 k' x32 x33 = some s34 ∧ Fits [(1, .slice a25 x1.length p26), (5, .int .u8 x32), (13, .slice a21 x0.length p22), (14, iv (x0.length : Int)), (15, iv x33)] ρ ∧ h = h1) (fun ρ h1 => ∃ (x35 : Int), x35 = s34 ∧ Fits [(5, .int .u8 x35)] ρ ∧ h = h1) K ⟨0, 0, m37, ft, rfl⟩ ?_ rfl ?_
 rotate_left
 ·rintro ρ h1 ⟨x35, rfl, hf, rfl⟩
  have H := HR36
  try dsimp only at H
  refine k_fits _ hf ?_ rfl
  obtain rfl := si H
  exact st 6 [] (k_retQ ⟨_, by kernel_rfl, rfl, rfl⟩)
 clear HR36 m37 H
 rintro k' ρ h1 ⟨x32, x33, H, hf, rfl⟩
 cases k' with
 | zero => cases H
 | succ k =>
  rw [mac_Equal.l1.m] at H
  refine k_fits _ hf ?_ rfl
  refine st 1 [] ?_
  obtain ⟨j40, e44, H⟩ := letJ_some H
  refine k_join (fun ρ h1 => ∃ (x39 : Bool), j40 x39 = some s34 ∧ Fits [(1, .slice a25 x1.length p26), (5, .int .u8 x32), (13, .slice a21 x0.length p22), (14, iv (x0.length : Int)), (15, iv x33), (16, .bool x39)] ρ ∧ h = h1) ?_ ?_
  ·refine st 1 [] (k_ite H (fun c38 H => ?_) (fun c38 H => ?_))
   ·exact st 1 [] (k_end ⟨true, H, ft, rfl⟩)
   exact st 1 [] (k_end ⟨false, H, ft, rfl⟩)
  clear H
  rintro ρ h1 ⟨x39, H, hf, rfl⟩
  refine k_fits _ hf ?_ rfl
  subst e44
  try dsimp only at H
  cases x39
  ·rw [cond_false] at H
   refine st 2 [false] (k_out rfl ?_)
   obtain rfl := si H
   exact xE ⟨x32, rfl, ft, rfl⟩
  rw [cond_true] at H
  obtain ⟨c41, H⟩ := guard_pos H
  obtain ⟨c42, H⟩ := guard_pos H
  refine st 8 [true] (k_val (elemPtr a21 (x33.toNat * 1)) (pI (e := 5) (ik := .i64) s29 c41 c42) ?_)
  refine k_op (lC (s29.cell1 c41 c42) ?_)
  obtain ⟨c43, H⟩ := guard_pos H
  refine st 8 [] (k_val (elemPtr a25 (x33.toNat * 1)) (pI (e := 5) (ik := .i64) s30 c41 c43) ?_)
  refine k_op (lC (s30.cell1 c41 c43) ?_)
  exact st 9 [] (k_endL ⟨k, Nat.lt_succ_self _, (bOr .u8 x32 (bXor .u8 (at_ x0 x33) (at_ x1 x33))), (w64 (x33 + 1)), H, ft, rfl⟩)
def frame_Open.l1.m (K : Nat) (x2 : (List Int)) : Nat → Int → Int → Option (Int)
  | 0, _, _ => none
  | k + 1, x49, x50 => (if x50 < ((sub (sub x2 0 (w64 ((x2.length : Int) - 16))) 2 10).length : Int) then (if 0 ≤ x50 then (frame_Open.l1.m K x2 k (bOr .u64 (shl .u64 x49 8) (IntKind.u64.wrap ((at_ (sub (sub x2 0 (w64 ((x2.length : Int) - 16))) 2 10) x50)))) (w64 (x50 + 1))) else none) else (some (x49)))
def frame_Open.m (K : Nat) (x0 : (List Int)) (x1 : Int) (x2 : (List Int)) : Option (api_Frame × GoErr) :=
  (letJ (α := Bool → Option (api_Frame × GoErr)) (fun (x31 : Bool) => (bif x31 then (some ((⟨0, 0, []⟩ : api_Frame), (GoErr.no 2))) else (if (x2.length : Int) > 512 then (some ((⟨0, 0, []⟩ : api_Frame), (GoErr.no 6))) else (if 0 ≤ (w64 ((x2.length : Int) - 16)) then (if (w64 ((x2.length : Int) - 16)) ≤ (x2.length : Int) then ((mac_Tag.m K x0 [(sub x2 0 (w64 ((x2.length : Int) - 16)))]).bind fun t39 => ((mac_Equal.m K t39 (sub x2 (w64 ((x2.length : Int) - 16)) (x2.length : Int))).bind fun t43 => bif t43 then (if 0 < ((sub x2 0 (w64 ((x2.length : Int) - 16))).length : Int) then (if (at_ (sub x2 0 (w64 ((x2.length : Int) - 16))) 0) = 1 then (if 1 < ((sub x2 0 (w64 ((x2.length : Int) - 16))).length : Int) then (if (w64 ((at_ (sub x2 0 (w64 ((x2.length : Int) - 16))) 1))) = x1 then (if 10 ≤ ((sub x2 0 (w64 ((x2.length : Int) - 16))).length : Int) then ((frame_Open.l1.m K x2 K 0 0).bind fun x52 => (if x52 < 1 then (some ((⟨0, 0, []⟩ : api_Frame), (GoErr.no 1))) else (if x52 > 4611686018427387904 then (some ((⟨0, 0, []⟩ : api_Frame), (GoErr.no 1))) else ((frame_sided.m x1).bind fun t59 => bif t59 then ((slices_Clone_bytes.m (sub (sub x2 0 (w64 ((x2.length : Int) - 16))) 10 ((sub x2 0 (w64 ((x2.length : Int) - 16))).length : Int))).bind fun t60 => (some ((⟨x1, (w64 (x52)), t60⟩ : api_Frame), GoErr.nil))) else (some ((⟨0, 0, []⟩ : api_Frame), (GoErr.no 1))))))) else none) else (some ((⟨0, 0, []⟩ : api_Frame), (GoErr.no 13)))) else none) else (some ((⟨0, 0, []⟩ : api_Frame), (GoErr.no 13)))) else none) else (some ((⟨0, 0, []⟩ : api_Frame), (GoErr.no 11))))) else none) else none)))) fun (j32 : Bool → Option (api_Frame × GoErr)) => (if (x2.length : Int) < 26 then (j32 true) else (j32 false)))
theorem frame_Open.calls {B I : Gh} {h : Heap} {K : Nat} {x0 : (List Int)} {x1 : Int} {x2 : (List Int)} {a21 : Option Addr} {p22 : Nat} {n23 : Nat} {a25 : Option Addr} {p26 : Nat} {n27 : Nat} {r : (api_Frame × GoErr)} (H : frame_Open.m K x0 x1 x2 = some r)  :
    Fc Tryz.prog 203 #[.slice a21 n23 p22, iv x1, .slice a25 n27 p26] [rR (tInt .u8) .b a21 p22 n23 x0, rR (tInt .u8) .b a25 p26 n27 x2] B I h (fun v L => ∃ a66 p67 n68 v70, v = .tuple #[.agg #[iv r.1.Dir, iv r.1.Seq, .slice a66 n68 p67], v70] ∧ L = [rO (tInt .u8) .i a66 p67 n68 r.1.Body, rE .i v70 r.2]) := by
 refine fc_of fun E hs => ?_
 unfold frame_Open.m at H
 cases hs.nR d0
 cases hs.nR d1
 refine fn_of2 (rs := [.cell 6 93, .tmp 7]) (N := 93) Tryz.func203 rfl rfl rfl rfl ?_
 refine st 2 [] (k_op (nA hs [iv 0, iv 0, .slice none 0 0] (.agg #[iv 0, iv 0, .slice none 0 0]) ?_))
 intro b29 h hs
 refine st 5 [] ?_
 obtain ⟨j32, e65, H⟩ := letJ_some H
 refine k_joinT (fun T ρ h => ∃ (x31 : Bool), ∃ I, j32 x31 = some r ∧ Fits [(0, .slice a21 x0.length p22), (1, iv x1), (2, .slice a25 x2.length p26), (6, pv b29), (14, .bool x31)] ρ ∧ St E T I h) hs tl0 ?_ ?_
 ·refine st 3 [] (k_ite H (fun c30 H => ?_) (fun c30 H => ?_))
  ·exact st 2 [] (k_end ⟨true, I, H, ft, hs⟩)
  exact st 2 [] (k_end ⟨false, I, H, ft, hs⟩)
 clear H
 rintro ρ h ⟨x31, I, H, hf, hs⟩
 refine k_fits _ hf ?_ rfl
 subst e65
 try dsimp only at H
 cases x31
 rotate_left
 ·rw [cond_true] at H
  refine st 5 [true] (k_op (sN0 hs [iv 0, iv 0, .slice none 0 0] (ones_of rfl) ?_))
  intro h hs
  obtain rfl := si H
  exact st 2 [] (k_retQ ⟨[.agg #[iv 0, iv 0, .slice none 0 0], .iface 137 (iv 2)], (.cons (.agg (by kernel_rfl) (by kernel_rfl) (by kernel_rfl) ((hs.bl d0).seg_ 0 3 (Nat.le_of_ble_eq_true rfl))) (.cons (.tmp (by kernel_rfl)) .nil)), I, _, ⟨none, 0, 0, (.iface 137 (iv 2)), rfl, rfl⟩, hs.pk (.f imON (.f imEC .n))⟩)
 rw [cond_false] at H
 refine st 5 [false] (k_ite H (fun c33 H => ?_) (fun c33 H => ?_))
 ·refine st 7 [true] (k_op (sN0 hs [iv 0, iv 0, .slice none 0 0] (ones_of rfl) ?_))
  intro h hs
  obtain rfl := si H
  exact st 2 [] (k_retQ ⟨[.agg #[iv 0, iv 0, .slice none 0 0], .iface 137 (iv 6)], (.cons (.agg (by kernel_rfl) (by kernel_rfl) (by kernel_rfl) ((hs.bl d0).seg_ 0 3 (Nat.le_of_ble_eq_true rfl))) (.cons (.tmp (by kernel_rfl)) .nil)), I, _, ⟨none, 0, 0, (.iface 137 (iv 6)), rfl, rfl⟩, hs.pk (.f imON (.f imEC .n))⟩)
 refine st 6 [false] ?_
 obtain ⟨hs0, bk0⟩ := hs.call tk0 (.c (qB d2) .n)
 have hs := hs0
 refine k_regD hs0 12 ?_
 obtain ⟨c34, H⟩ := guard_pos H
 obtain ⟨c35, H⟩ := guard_pos H
 refine aRun [0, 1, 2, 3] 8 hs.keep ?_
 refine aP 4 (.slice (slA a25 p26 (Int.toNat (0 : Int)) 1) ((sub x2 0 (w64 ((x2.length : Int) - 16))).length) (p26 - Int.toNat (0 : Int))) rfl (pSh (e := 5) (k2 := .i64) (hs.sR d0) (Int.le_refl 0) c34 c35) hs.keep ?_
 refine aRun [5, 6, 7, 8] 3 hs.keep ?_
 refine aP 9 (.slice (slA a25 p26 (Int.toNat (w64 ((x2.length : Int) - 16))) 1) ((sub x2 (w64 ((x2.length : Int) - 16)) (x2.length : Int)).length) (p26 - Int.toNat (w64 ((x2.length : Int) - 16)))) rfl (pSl (e := 5) (k1 := .i64) (hs.sR d0) c34 c35 (Int.le_refl _)) hs.keep ?_
 refine aRun [10, 11] 0 hs.keep ?_
 replace hs := hs.pk .n
 replace hs := bk0 hs ct0 rfl
 refine aEnd ?_
 replace hs := hs.part d2 (lo := 0) (hi := (w64 ((x2.length : Int) - 16))) (Int.le_refl 0) c34 c35
 have hz := hs
 obtain ⟨I, hs⟩ := hs.all (.r (.d (.r (.r .n))))
 refine st 5 [] (k_op (nS (e := 31) hs .i (tSl (tInt .u8)) ([(sub x2 0 (w64 ((x2.length : Int) - 16)))] : List (List Int)) [.slice (slA a25 p26 (Int.toNat (0 : Int)) 1) ((sub x2 0 (w64 ((x2.length : Int) - 16))).length) (p26 - Int.toNat (0 : Int))] 1 (.slice none 0 0) (Reps.cons (T := (tSl (tInt .u8))) (c := [.slice (slA a25 p26 (Int.toNat (0 : Int)) 1) ((sub x2 0 (w64 ((x2.length : Int) - 16))).length) (p26 - Int.toNat (0 : Int))]) (x := (sub x2 0 (w64 ((x2.length : Int) - 16)))) ⟨_, _, _, rfl, (hs.g d0)⟩ (.nil : Reps (tSl (tInt .u8)) (Cl.G .i E.B I) h [] [])) ?_))
 intro b37 h hs
 obtain ⟨hk, bk⟩ := hs.call tk0 (.c (qI d2) (.c (qMO d0) .n))
 refine k_call H (fun _ m => mac_Tag.calls m hk) ?_
 rintro t39 _ h H ⟨I, _, ⟨rfl, rfl, hl40⟩, hk⟩
 replace hs := bk hk ct0 rfl
 obtain ⟨I, hs⟩ : ∃ I, St E _ I _ := ⟨_, hz.back hs⟩
 refine k_op (nA hs (List.map (Value.int .u8) (List.replicate 16 (0 : Int))) (.agg (List.map (Value.int .u8) (List.replicate 16 (0 : Int))).toArray) ?_)
 intro b41 h hs
 refine k_op (sAN (l2 := t39) hs (List.length_replicate (n := 16) (a := (0 : Int))) hl40 ?_)
 intro h hs
 obtain ⟨I, hs⟩ := hs.fA hl40
 refine st 5 [] (k_call H (fun _ m => mac_Equal.calls m ((hs.sR d0)).up1 (Sn.part (hs.sR d4) (lo := (w64 ((x2.length : Int) - 16))) (hi := (x2.length : Int)) c34 c35 (Int.le_refl _))) ?_)
 rintro t43 _ _ H ⟨rfl, rfl⟩
 cases t43
 ·rw [cond_false] at H
  refine st 7 [true] (k_op (sN0 (hs.f d2) [iv 0, iv 0, .slice none 0 0] (ones_of rfl) ?_))
  intro h hs
  obtain rfl := si H
  exact st 2 [] (k_retQ ⟨[.agg #[iv 0, iv 0, .slice none 0 0], .iface 137 (iv 11)], (.cons (.agg (by kernel_rfl) (by kernel_rfl) (by kernel_rfl) ((hs.bl d0).seg_ 0 3 (Nat.le_of_ble_eq_true rfl))) (.cons (.tmp (by kernel_rfl)) .nil)), I, _, ⟨none, 0, 0, (.iface 137 (iv 11)), rfl, rfl⟩, hs.pk (.f imON (.f imEC .n))⟩)
 rw [cond_true] at H
 obtain ⟨c44, H⟩ := guard_pos H
 refine st 8 [false] (k_val (elemPtr (slA a25 p26 (Int.toNat (0 : Int)) 1) ((0 : Int).toNat * 1)) (pI (e := 5) (ik := .i64) (Sn.part (hs.sR d4) (lo := 0) (hi := (w64 ((x2.length : Int) - 16))) (Int.le_refl 0) c34 c35) (by decide) c44) ?_)
 refine k_op (lC ((Sn.part (hs.sR d4) (lo := 0) (hi := (w64 ((x2.length : Int) - 16))) (Int.le_refl 0) c34 c35).cell1 (by decide) c44) ?_)
 refine k_iteN H (fun c45 H => ?_) (fun c45 H => ?_)
 rotate_left
 ·refine st 14 [true] (k_op (sN0 (hs.f d2) [iv 0, iv 0, .slice none 0 0] (ones_of rfl) ?_))
  intro h hs
  obtain rfl := si H
  exact st 2 [] (k_retQ ⟨[.agg #[iv 0, iv 0, .slice none 0 0], .iface 137 (iv 13)], (.cons (.agg (by kernel_rfl) (by kernel_rfl) (by kernel_rfl) ((hs.bl d0).seg_ 0 3 (Nat.le_of_ble_eq_true rfl))) (.cons (.tmp (by kernel_rfl)) .nil)), I, _, ⟨none, 0, 0, (.iface 137 (iv 13)), rfl, rfl⟩, hs.pk (.f imON (.f imEC .n))⟩)
 obtain ⟨c46, H⟩ := guard_pos H
 refine st 2 [] (k_val (elemPtr (slA a25 p26 (Int.toNat (0 : Int)) 1) ((1 : Int).toNat * 1)) (pI (e := 5) (ik := .i64) (Sn.part (hs.sR d4) (lo := 0) (hi := (w64 ((x2.length : Int) - 16))) (Int.le_refl 0) c34 c35) (by decide) c46) ?_)
 refine k_op (lC ((Sn.part (hs.sR d4) (lo := 0) (hi := (w64 ((x2.length : Int) - 16))) (Int.le_refl 0) c34 c35).cell1 (by decide) c46) ?_)
 refine st 2 [] (k_iteN H (fun c47 H => ?_) (fun c47 H => ?_))
 rotate_left
 ·refine st 7 [true] (k_op (sN0 (hs.f d2) [iv 0, iv 0, .slice none 0 0] (ones_of rfl) ?_))
  intro h hs
  obtain rfl := si H
  exact st 2 [] (k_retQ ⟨[.agg #[iv 0, iv 0, .slice none 0 0], .iface 137 (iv 13)], (.cons (.agg (by kernel_rfl) (by kernel_rfl) (by kernel_rfl) ((hs.bl d0).seg_ 0 3 (Nat.le_of_ble_eq_true rfl))) (.cons (.tmp (by kernel_rfl)) .nil)), I, _, ⟨none, 0, 0, (.iface 137 (iv 13)), rfl, rfl⟩, hs.pk (.f imON (.f imEC .n))⟩)
 obtain ⟨c48, H⟩ := guard_pos H
 refine st 12 [false] (k_val (.slice (slA (slA a25 p26 (Int.toNat (0 : Int)) 1) (p26 - Int.toNat (0 : Int)) (Int.toNat (2 : Int)) 1) ((sub (sub x2 0 (w64 ((x2.length : Int) - 16))) 2 10).length) ((p26 - Int.toNat (0 : Int)) - Int.toNat (2 : Int))) (pS (e := 5) (k1 := .i64) (k2 := .i64) (Sn.part (hs.sR d4) (lo := 0) (hi := (w64 ((x2.length : Int) - 16))) (Int.le_refl 0) c34 c35) (by decide) (by decide) c48) ?_)
 refine st 4 [] ?_
 obtain ⟨s51, m54, HR53⟩ := bind_some H
 refine k_loopT hs tl0 1 (fun T k' ρ h => ∃ (x49 : Int) (x50 : Int), ∃ I, frame_Open.l1.m K x2 k' x49 x50 = some s51 ∧ Fits [(1, iv x1), (6, pv b29), (8, .slice (slA a25 p26 (Int.toNat (0 : Int)) 1) ((sub x2 0 (w64 ((x2.length : Int) - 16))).length) (p26 - Int.toNat (0 : Int))), (11, .int .u64 x49), (61, .slice (slA (slA a25 p26 (Int.toNat (0 : Int)) 1) (p26 - Int.toNat (0 : Int)) (Int.toNat (2 : Int)) 1) ((sub (sub x2 0 (w64 ((x2.length : Int) - 16))) 2 10).length) ((p26 - Int.toNat (0 : Int)) - Int.toNat (2 : Int))), (62, iv ((sub (sub x2 0 (w64 ((x2.length : Int) - 16))) 2 10).length : Int)), (63, iv x50)] ρ ∧ St E T I h) (fun T ρ h => ∃ (x52 : Int), ∃ I, x52 = s51 ∧ Fits [(1, iv x1), (6, pv b29), (8, .slice (slA a25 p26 (Int.toNat (0 : Int)) 1) ((sub x2 0 (w64 ((x2.length : Int) - 16))).length) (p26 - Int.toNat (0 : Int))), (11, .int .u64 x52)] ρ ∧ St E T I h) K ⟨0, 0, I, m54, ft, hs⟩ ?_ rfl ?_
 ·clear HR53 m54 H
  rintro k' ρ h ⟨x49, x50, I, H, hf, hs⟩
  cases k' with
  | zero => cases H
  | succ k =>
   rw [frame_Open.l1.m] at H
   refine k_fits _ hf ?_ rfl
   refine st 2 [] (k_ite H (fun c55 H => ?_) (fun c55 H => ?_))
   ·obtain ⟨c56, H⟩ := guard_pos H
    refine st 8 [true] (k_val (elemPtr (slA (slA a25 p26 (Int.toNat (0 : Int)) 1) (p26 - Int.toNat (0 : Int)) (Int.toNat (2 : Int)) 1) (x50.toNat * 1)) (pI (e := 5) (ik := .i64) (Sn.part (Sn.part (hs.sR d4) (lo := 0) (hi := (w64 ((x2.length : Int) - 16))) (Int.le_refl 0) c34 c35) (lo := 2) (hi := 10) (by decide) (by decide) c48) c56 c55) ?_)
    refine k_op (lC ((Sn.part (Sn.part (hs.sR d4) (lo := 0) (hi := (w64 ((x2.length : Int) - 16))) (Int.le_refl 0) c34 c35) (lo := 2) (hi := 10) (by decide) (by decide) c48).cell1 c56 c55) ?_)
    exact st 15 [] (k_endL ⟨k, Nat.lt_succ_self _, (bOr .u64 (shl .u64 x49 8) (IntKind.u64.wrap ((at_ (sub (sub x2 0 (w64 ((x2.length : Int) - 16))) 2 10) x50)))), (w64 (x50 + 1)), I, H, ft, hs⟩)
   refine st 3 [false] (k_out rfl ?_)
   obtain rfl := si H
   exact xE ⟨x49, I, rfl, ft, hs⟩
 rintro ρ h ⟨x52, I, rfl, hf, hs⟩
 have H := HR53
 try dsimp only at H
 refine k_fits _ hf ?_ rfl
 refine st 4 [] (k_ite H (fun c57 H => ?_) (fun c57 H => ?_))
 ·refine st 15 [true] (k_op (sN0 (hs.f d2) [iv 0, iv 0, .slice none 0 0] (ones_of rfl) ?_))
  intro h hs
  obtain rfl := si H
  exact st 2 [] (k_retQ ⟨[.agg #[iv 0, iv 0, .slice none 0 0], .iface 137 (iv 1)], (.cons (.agg (by kernel_rfl) (by kernel_rfl) (by kernel_rfl) ((hs.bl d0).seg_ 0 3 (Nat.le_of_ble_eq_true rfl))) (.cons (.tmp (by kernel_rfl)) .nil)), I, _, ⟨none, 0, 0, (.iface 137 (iv 1)), rfl, rfl⟩, hs.pk (.f imON (.f imEC .n))⟩)
 refine st 2 [] (k_ite H (fun c58 H => ?_) (fun c58 H => ?_))
 ·refine st 12 [true] (k_op (sN0 (hs.f d2) [iv 0, iv 0, .slice none 0 0] (ones_of rfl) ?_))
  intro h hs
  obtain rfl := si H
  exact st 2 [] (k_retQ ⟨[.agg #[iv 0, iv 0, .slice none 0 0], .iface 137 (iv 1)], (.cons (.agg (by kernel_rfl) (by kernel_rfl) (by kernel_rfl) ((hs.bl d0).seg_ 0 3 (Nat.le_of_ble_eq_true rfl))) (.cons (.tmp (by kernel_rfl)) .nil)), I, _, ⟨none, 0, 0, (.iface 137 (iv 1)), rfl, rfl⟩, hs.pk (.f imON (.f imEC .n))⟩)
 refine st 3 [] (k_call H (fun _ m => frame_sided.calls m) ?_)
 rintro t59 _ _ H ⟨rfl, rfl⟩
 cases t59
 ·rw [cond_false] at H
  refine st 8 [true] (k_op (sN0 (hs.f d2) [iv 0, iv 0, .slice none 0 0] (ones_of rfl) ?_))
  intro h hs
  obtain rfl := si H
  exact st 2 [] (k_retQ ⟨[.agg #[iv 0, iv 0, .slice none 0 0], .iface 137 (iv 1)], (.cons (.agg (by kernel_rfl) (by kernel_rfl) (by kernel_rfl) ((hs.bl d0).seg_ 0 3 (Nat.le_of_ble_eq_true rfl))) (.cons (.tmp (by kernel_rfl)) .nil)), I, _, ⟨none, 0, 0, (.iface 137 (iv 1)), rfl, rfl⟩, hs.pk (.f imON (.f imEC .n))⟩)
 rw [cond_true] at H
 refine st 11 [false] (k_val (.slice (slA (slA a25 p26 (Int.toNat (0 : Int)) 1) (p26 - Int.toNat (0 : Int)) (Int.toNat (10 : Int)) 1) ((sub (sub x2 0 (w64 ((x2.length : Int) - 16))) 10 ((sub x2 0 (w64 ((x2.length : Int) - 16))).length : Int)).length) ((p26 - Int.toNat (0 : Int)) - Int.toNat (10 : Int))) (pSl (e := 5) (k1 := .i64) (Sn.part (hs.sR d4) (lo := 0) (hi := (w64 ((x2.length : Int) - 16))) (Int.le_refl 0) c34 c35) (by decide) c48 (Int.le_refl _)) ?_)
 obtain ⟨hk, bk⟩ := hs.call tk0 (.c (qP (qP (qB d4) (lo := 0) (hi := (w64 ((x2.length : Int) - 16))) (Int.le_refl 0) c34 c35) (lo := 10) (hi := ((sub x2 0 (w64 ((x2.length : Int) - 16))).length : Int)) (by decide) c48 (Int.le_refl _)) .n)
 refine k_call H (fun _ m => slices_Clone_bytes.calls m hk) ?_
 rintro t60 _ h H ⟨I, _, ⟨a61, p62, n63, rfl, rfl⟩, hk⟩
 replace hs := bk hk ct1 rfl
 cases hs.nO d0
 refine st 1 [] (k_op (sN0 (hs.f d3) [iv x1, iv (w64 (x52)), .slice a61 t60.length p62] (ones_of rfl) ?_))
 intro h hs
 obtain rfl := si H
 exact st 2 [] (k_retQ ⟨[.agg #[iv x1, iv (w64 (x52)), .slice a61 t60.length p62], .nilIface], (.cons (.agg (by kernel_rfl) (by kernel_rfl) (by kernel_rfl) ((hs.bl d0).seg_ 0 3 (Nat.le_of_ble_eq_true rfl))) (.cons (.tmp (by kernel_rfl)) .nil)), I, _, ⟨a61, p62, t60.length, (.nilIface), rfl, rfl⟩, hs.pk (.c d1 (.f imEN .n))⟩)
def window_Has.m (x0 : api_Seen) (x1 : Int) : Option Bool :=
  (if x1 ≥ 1 then (if x1 ≤ x0.Top then (if (w64 (x0.Top - x1)) < 64 then (if 0 ≤ (w64 (x0.Top - x1)) then (some ((bAnd .u64 (shr .u64 x0.Bits (w64 (x0.Top - x1))) 1) == 1)) else none) else (some false)) else (some false)) else (some false))
theorem window_Has.calls {B I : Gh} {h : Heap} {x0 : api_Seen} {x1 : Int} {r : Bool} (H : window_Has.m x0 x1 = some r)  :
    Fc Tryz.prog 248 #[.agg #[iv x0.Top, .int .u64 x0.Bits], iv x1] [] B I h (fun v L => v = .bool r ∧ L = []) := by
 refine fc_of fun E hs => ?_
 unfold window_Has.m at H
 refine fn_of (rs := [.tmp 4]) (N := 31) Tryz.func248 rfl rfl rfl rfl ?_
 refine st 2 [] (k_op (nB hs [iv x0.Top, .int .u64 x0.Bits] ?_))
 intro b21 h hs
 refine st 5 [] (k_ite H (fun c22 H => ?_) (fun c22 H => ?_))
 rotate_left
 ·obtain rfl := si H
  exact st 26 [] (k_retQ ⟨_, by kernel_rfl, I, _, ⟨rfl, rfl⟩, hs.pk .n⟩)
 refine st 3 [] (k_op (lB (hs.bl d0) 0 rfl ?_))
 refine k_ite H (fun c23 H => ?_) (fun c23 H => ?_)
 rotate_left
 ·obtain rfl := si H
  exact st 21 [] (k_retQ ⟨_, by kernel_rfl, I, _, ⟨rfl, rfl⟩, hs.pk .n⟩)
 refine st 3 [] (k_op (lB (hs.bl d0) 0 rfl ?_))
 refine st 2 [] (k_ite H (fun c24 H => ?_) (fun c24 H => ?_))
 rotate_left
 ·obtain rfl := si H
  exact st 14 [] (k_retQ ⟨_, by kernel_rfl, I, _, ⟨rfl, rfl⟩, hs.pk .n⟩)
 refine st 3 [] (k_op (lB (hs.bl d0) 1 rfl ?_))
 refine st 1 [] (k_op (lB (hs.bl d0) 0 rfl ?_))
 obtain ⟨c25, H⟩ := guard_pos H
 refine st 2 [] (k_val (.int .u64 (shr .u64 x0.Bits (w64 (x0.Top - x1)))) (pr_shr (k := .u64) (yk := .i64) (a := x0.Bits) (b := (w64 (x0.Top - x1))) (by kernel_rfl) (by kernel_rfl) c25) ?_)
 obtain rfl := si H
 exact st 5 [] (k_retQ ⟨_, by kernel_rfl, I, _, ⟨rfl, rfl⟩, hs.pk .n⟩)
def window_Let.m (x0 : api_Seen) (x1 : Int) : Option (api_Seen × GoErr) :=
  (letJ (α := Bool → Option (api_Seen × GoErr)) (fun (x25 : Bool) => (bif x25 then (some (x0, (GoErr.no 1))) else (letJ (α := Bool → Option (api_Seen × GoErr)) (fun (x28 : Bool) => (bif x28 then (if 0 ≤ (w64 (x1 - x0.Top)) then (some ((⟨x1, (bOr .u64 (shl .u64 x0.Bits (w64 (x1 - x0.Top))) 1)⟩ : api_Seen), GoErr.nil)) else none) else (if (w64 (x0.Top - x1)) ≥ 64 then (some (x0, (GoErr.no 12))) else ((window_Has.m x0 x1).bind fun t32 => bif t32 then (some (x0, (GoErr.no 12))) else (if 0 ≤ (w64 (x0.Top - x1)) then (some ((⟨x0.Top, (bOr .u64 x0.Bits (shl .u64 1 (w64 (x0.Top - x1))))⟩ : api_Seen), GoErr.nil)) else none))))) fun (j29 : Bool → Option (api_Seen × GoErr)) => (if x1 > x0.Top then (j29 true) else (j29 false))))) fun (j26 : Bool → Option (api_Seen × GoErr)) => (if x1 < 1 then (j26 true) else (if x1 > 4611686018427387904 then (j26 true) else (j26 false))))
theorem window_Let.calls {B I : Gh} {h : Heap} {x0 : api_Seen} {x1 : Int} {r : (api_Seen × GoErr)} (H : window_Let.m x0 x1 = some r)  :
    Fc Tryz.prog 204 #[.agg #[iv x0.Top, .int .u64 x0.Bits], iv x1] [] B I h (fun v L => ∃ v36, v = .tuple #[.agg #[iv r.1.Top, .int .u64 r.1.Bits], v36] ∧ L = [rE .i v36 r.2]) := by
 refine fc_of fun E hs => ?_
 unfold window_Let.m at H
 refine fn_of2 (rs := [.cell 4 71, .tmp 5]) (N := 53) Tryz.func204 rfl rfl rfl rfl ?_
 refine st 2 [] (k_op (nB hs [iv x0.Top, .int .u64 x0.Bits] ?_))
 intro b21 h hs
 refine k_op (nA hs [iv 0, .int .u64 0] (.agg #[iv 0, .int .u64 0]) ?_)
 intro b22 h hs
 refine st 5 [] ?_
 obtain ⟨j26, e35, H⟩ := letJ_some H
 refine k_joinT (fun T ρ h => ∃ (x25 : Bool), ∃ I, j26 x25 = some r ∧ Fits [(1, iv x1), (2, pv b21), (4, pv b22), (6, .bool x25)] ρ ∧ St E T I h) hs tl0 ?_ ?_
 ·refine st 2 [] (k_ite H (fun c23 H => ?_) (fun c23 H => ?_))
  ·exact st 6 [] (k_end ⟨true, I, H, ft, hs⟩)
  refine st 2 [] (k_ite H (fun c24 H => ?_) (fun c24 H => ?_))
  ·exact st 3 [] (k_end ⟨true, I, H, ft, hs⟩)
  exact st 3 [] (k_end ⟨false, I, H, ft, hs⟩)
 clear H
 rintro ρ h ⟨x25, I, H, hf, hs⟩
 refine k_fits _ hf ?_ rfl
 subst e35
 try dsimp only at H
 cases x25
 rotate_left
 ·rw [cond_true] at H
  refine st 3 [true] (k_op (lN (hs.bl d1) 0 2 ?_))
  refine st 1 [] (k_op (sN0 hs [iv x0.Top, .int .u64 x0.Bits] (ones_of rfl) ?_))
  intro h hs
  obtain rfl := si H
  exact st 2 [] (k_retQ ⟨[.agg #[iv x0.Top, .int .u64 x0.Bits], .iface 137 (iv 1)], (.cons (.agg (by kernel_rfl) (by kernel_rfl) (by kernel_rfl) ((hs.bl d0).seg_ 0 2 (Nat.le_of_ble_eq_true rfl))) (.cons (.tmp (by kernel_rfl)) .nil)), I, _, ⟨(.iface 137 (iv 1)), rfl, rfl⟩, hs.pk (.f imEC .n)⟩)
 rw [cond_false] at H
 refine st 2 [false] ?_
 obtain ⟨j29, e34, H⟩ := letJ_some H
 refine k_joinT (fun T ρ h => ∃ (x28 : Bool), ∃ I, j29 x28 = some r ∧ Fits [(1, iv x1), (2, pv b21), (4, pv b22), (15, .bool x28)] ρ ∧ St E T I h) hs tl0 ?_ ?_
 ·refine st 3 [] (k_op (lB (hs.bl d1) 0 rfl ?_))
  refine k_ite H (fun c27 H => ?_) (fun c27 H => ?_)
  ·exact st 2 [] (k_end ⟨true, I, H, ft, hs⟩)
  exact st 2 [] (k_end ⟨false, I, H, ft, hs⟩)
 clear H
 rintro ρ h ⟨x28, I, H, hf, hs⟩
 refine k_fits _ hf ?_ rfl
 subst e34
 try dsimp only at H
 cases x28
 rotate_left
 ·rw [cond_true] at H
  refine st 5 [true] (k_op (lB (hs.bl d1) 1 rfl ?_))
  refine st 2 [] (k_op (lB (hs.bl d1) 0 rfl ?_))
  obtain ⟨c30, H⟩ := guard_pos H
  refine st 1 [] (k_val (.int .u64 (shl .u64 x0.Bits (w64 (x1 - x0.Top)))) (pr_shl (k := .u64) (yk := .i64) (a := x0.Bits) (b := (w64 (x1 - x0.Top))) (by kernel_rfl) (by kernel_rfl) c30) ?_)
  refine st 2 [] (k_op (sN0 hs [iv x1, .int .u64 (bOr .u64 (shl .u64 x0.Bits (w64 (x1 - x0.Top))) 1)] (ones_of rfl) ?_))
  intro h hs
  obtain rfl := si H
  exact st 2 [] (k_retQ ⟨[.agg #[iv x1, .int .u64 (bOr .u64 (shl .u64 x0.Bits (w64 (x1 - x0.Top))) 1)], .nilIface], (.cons (.agg (by kernel_rfl) (by kernel_rfl) (by kernel_rfl) ((hs.bl d0).seg_ 0 2 (Nat.le_of_ble_eq_true rfl))) (.cons (.tmp (by kernel_rfl)) .nil)), I, _, ⟨(.nilIface), rfl, rfl⟩, hs.pk (.f imEN .n)⟩)
 rw [cond_false] at H
 refine st 4 [false] (k_op (lB (hs.bl d1) 0 rfl ?_))
 refine st 2 [] (k_ite H (fun c31 H => ?_) (fun c31 H => ?_))
 ·refine st 10 [true] (k_op (lN (hs.bl d1) 0 2 ?_))
  refine st 1 [] (k_op (sN0 hs [iv x0.Top, .int .u64 x0.Bits] (ones_of rfl) ?_))
  intro h hs
  obtain rfl := si H
  exact st 2 [] (k_retQ ⟨[.agg #[iv x0.Top, .int .u64 x0.Bits], .iface 137 (iv 12)], (.cons (.agg (by kernel_rfl) (by kernel_rfl) (by kernel_rfl) ((hs.bl d0).seg_ 0 2 (Nat.le_of_ble_eq_true rfl))) (.cons (.tmp (by kernel_rfl)) .nil)), I, _, ⟨(.iface 137 (iv 12)), rfl, rfl⟩, hs.pk (.f imEC .n)⟩)
 refine st 1 [] (k_op (lN (hs.bl d1) 0 2 ?_))
 obtain ⟨hk, bk⟩ := hs.call tk0 .n
 refine st 1 [] (k_call H (fun _ m => window_Has.calls m hk) ?_)
 rintro t32 _ h H ⟨I, _, ⟨rfl, rfl⟩, hk⟩
 replace hs := bk hk ct0 rfl
 cases t32
 rotate_left
 ·rw [cond_true] at H
  refine st 6 [true] (k_op (lN (hs.bl d1) 0 2 ?_))
  refine st 1 [] (k_op (sN0 hs [iv x0.Top, .int .u64 x0.Bits] (ones_of rfl) ?_))
  intro h hs
  obtain rfl := si H
  exact st 2 [] (k_retQ ⟨[.agg #[iv x0.Top, .int .u64 x0.Bits], .iface 137 (iv 12)], (.cons (.agg (by kernel_rfl) (by kernel_rfl) (by kernel_rfl) ((hs.bl d0).seg_ 0 2 (Nat.le_of_ble_eq_true rfl))) (.cons (.tmp (by kernel_rfl)) .nil)), I, _, ⟨(.iface 137 (iv 12)), rfl, rfl⟩, hs.pk (.f imEC .n)⟩)
 rw [cond_false] at H
 refine st 7 [false] ?_
 obtain ⟨hs0, bk0⟩ := hs.call tk0 (.c (qL d1) .n)
 have hs := hs0
 refine k_regD hs0 9 ?_
 refine aRun [0] 9 hs.keep ?_
 refine aL 1 rfl hs.keep (ll hs0 d0 (n := 1) rfl) (nmL hs0 d0) ?_
 refine aRun [2] 7 hs.keep ?_
 refine aL 3 rfl hs.keep (ll hs0 d0 (n := 0) rfl) (nmL hs0 d0) ?_
 obtain ⟨c33, H⟩ := guard_pos H
 refine aRun [4, 5] 4 hs.keep ?_
 refine aP 6 (.int .u64 (shl .u64 1 (w64 (x0.Top - x1)))) rfl (pr_shl (k := .u64) (yk := .i64) (a := 1) (b := (w64 (x0.Top - x1))) (by kernel_rfl) (by kernel_rfl) c33) hs.keep ?_
 refine aRun [7, 8] 1 hs.keep ?_
 replace hs := hs.pk .n
 replace hs := bk0 hs ct0 rfl
 refine aOL 9 rfl (sB (v := .int .u64 (bOr .u64 x0.Bits (shl .u64 1 (w64 (x0.Top - x1))))) (hs.f d1) cw1 ?_)
 intro h hs
 refine aEnd ?_
 refine st 2 [] (k_op (lN (hs.bl d0) 0 2 ?_))
 refine k_op (sN0 (hs.f d1) [iv x0.Top, .int .u64 (bOr .u64 x0.Bits (shl .u64 1 (w64 (x0.Top - x1))))] (ones_of rfl) ?_)
 intro h hs
 obtain rfl := si H
 exact st 2 [] (k_retQ ⟨[.agg #[iv x0.Top, .int .u64 (bOr .u64 x0.Bits (shl .u64 1 (w64 (x0.Top - x1))))], .nilIface], (.cons (.agg (by kernel_rfl) (by kernel_rfl) (by kernel_rfl) ((hs.bl d0).seg_ 0 2 (Nat.le_of_ble_eq_true rfl))) (.cons (.tmp (by kernel_rfl)) .nil)), I, _, ⟨(.nilIface), rfl, rfl⟩, hs.pk (.f imEN .n)⟩)
def roam_Gate_Come.m (K : Nat) (x0 : roam_Gate) (x1 : ByteArray) (x2 : (List Int)) : Option (roam_Gate × (List Int) × GoErr) :=
  ((frame_Open.m K x0.Key x0.Dir x2).bind fun t31 => (if t31.2 = GoErr.nil then ((window_Let.m x0.Seen t31.1.Seq).bind fun t42 => (if t42.2 = GoErr.nil then (if t31.1.Seq > x0.Peer.Seq then (some ((⟨x0.Key, x0.Dir, t42.1, (⟨x1, t31.1.Seq⟩ : api_Peer)⟩ : roam_Gate), t31.1.Body, GoErr.nil)) else (some ((⟨x0.Key, x0.Dir, t42.1, x0.Peer⟩ : roam_Gate), t31.1.Body, GoErr.nil))) else (some (x0, [], t42.2)))) else (some (x0, [], t31.2))))
theorem roam_Gate_Come.calls {B I : Gh} {h : Heap} {K : Nat} {x0 : roam_Gate} {x1 : ByteArray} {x2 : (List Int)} {a21 : Option Addr} {p22 : Nat} {n23 : Nat} {a25 : Option Addr} {p26 : Nat} {n27 : Nat} {r : (roam_Gate × (List Int) × GoErr)} (H : roam_Gate_Come.m K x0 x1 x2 = some r)  :
    Fc Tryz.prog 141 #[.agg #[.slice a21 n23 p22, iv x0.Dir, iv x0.Seen.Top, .int .u64 x0.Seen.Bits, .string x0.Peer.Addr, iv x0.Peer.Seq], .string x1, .slice a25 n27 p26] [rR (tInt .u8) .i a21 p22 n23 x0.Key, rR (tInt .u8) .b a25 p26 n27 x2] B I h (fun v L => ∃ a50 p51 n52 a54 p55 n56 v58, v = .tuple #[.agg #[.slice a50 n52 p51, iv r.1.Dir, iv r.1.Seen.Top, .int .u64 r.1.Seen.Bits, .string r.1.Peer.Addr, iv r.1.Peer.Seq], .slice a54 n56 p55, v58] ∧ L = [rR (tInt .u8) .i a50 p51 n52 r.1.Key, rO (tInt .u8) .i a54 p55 n56 r.2.1, rE .i v58 r.2.2]) := by
 refine fc_of fun E hs => ?_
 unfold roam_Gate_Come.m at H
 cases hs.nR d0
 cases hs.nR d1
 refine fn_of2 (rs := [.cell 6 73, .tmp 7, .tmp 8]) (N := 53) Tryz.func141 rfl rfl rfl rfl ?_
 refine st 2 [] (k_op (nB hs [.slice a21 x0.Key.length p22, iv x0.Dir, iv x0.Seen.Top, .int .u64 x0.Seen.Bits, .string x0.Peer.Addr, iv x0.Peer.Seq] ?_))
 intro b29 h hs
 refine k_op (nA hs [.slice none 0 0, iv 0, iv 0, .int .u64 0, .string (⟨#[]⟩ : ByteArray), iv 0] (.agg #[.slice none 0 0, iv 0, iv 0, .int .u64 0, .string (⟨#[]⟩ : ByteArray), iv 0]) ?_)
 intro b30 h hs
 refine st 6 [] (k_op (lB (hs.bl d1) 0 rfl ?_))
 refine st 1 [] (k_op (lB (hs.bl d1) 1 rfl ?_))
 obtain ⟨hk, bk⟩ := hs.call tk0 (.c (qI d2) (.c (qB d3) .n))
 refine st 1 [] (k_call H (fun _ m => frame_Open.calls m hk) ?_)
 rintro t31 _ h H ⟨I, _, ⟨a32, p33, n34, v36, rfl, rfl⟩, hk⟩
 replace hs := bk hk ct2 rfl
 cases hs.nO d0
 refine st 3 [] (k_op (nA hs [iv 0, iv 0, .slice none 0 0] (.agg #[iv 0, iv 0, .slice none 0 0]) ?_))
 intro b38 h hs
 refine k_op (sN0 hs [iv t31.1.Dir, iv t31.1.Seq, .slice a32 t31.1.Body.length p33] (ones_of rfl) ?_)
 intro h hs
 rcases (hs.er d2).cases with ⟨c39, rfl⟩ | ⟨c39, t40, u41, rfl⟩
 rotate_left
 ·rw [if_neg c39] at H
  refine st 11 [true] (k_op (lN (hs.bl d4) 0 6 ?_))
  refine st 1 [] (k_op (sN0 (hs.f d3) [.slice a21 x0.Key.length p22, iv x0.Dir, iv x0.Seen.Top, .int .u64 x0.Seen.Bits, .string x0.Peer.Addr, iv x0.Peer.Seq] (ones_of rfl) ?_))
  intro h hs
  obtain rfl := si H
  exact st 3 [] (k_retQ ⟨[.agg #[.slice a21 x0.Key.length p22, iv x0.Dir, iv x0.Seen.Top, .int .u64 x0.Seen.Bits, .string x0.Peer.Addr, iv x0.Peer.Seq], .slice none 0 0, (.iface t40 u41)], (.cons (.agg (by kernel_rfl) (by kernel_rfl) (by kernel_rfl) ((hs.bl d0).seg_ 0 6 (Nat.le_of_ble_eq_true rfl))) (.cons (.tmp (by kernel_rfl)) (.cons (.tmp (by kernel_rfl)) .nil))), I, _, ⟨a21, p22, x0.Key.length, none, 0, 0, ((.iface t40 u41)), rfl, rfl⟩, hs.pk (.c d5 (.f imON (.c d3 .n)))⟩)
 rw [if_pos c39] at H
 refine st 13 [false] (k_op (lN (hs.bl d4) 2 2 ?_))
 refine st 1 [] (k_op (lB (hs.bl d0) 1 rfl ?_))
 obtain ⟨hk, bk⟩ := hs.call tk0 .n
 refine k_call H (fun _ m => window_Let.calls m hk) ?_
 rintro t42 _ h H ⟨I, _, ⟨v43, rfl, rfl⟩, hk⟩
 replace hs := bk hk ct1 rfl
 refine st 3 [] (k_op (nA hs [iv 0, .int .u64 0] (.agg #[iv 0, .int .u64 0]) ?_))
 intro b45 h hs
 refine k_op (sN0 hs [iv t42.1.Top, .int .u64 t42.1.Bits] (ones_of rfl) ?_)
 intro h hs
 rcases (hs.er d1).cases with ⟨c46, rfl⟩ | ⟨c46, t47, u48, rfl⟩
 rotate_left
 ·rw [if_neg c46] at H
  refine st 11 [true] (k_op (lN (hs.bl d6) 0 6 ?_))
  refine st 1 [] (k_op (sN0 (hs.f d5) [.slice a21 x0.Key.length p22, iv x0.Dir, iv x0.Seen.Top, .int .u64 x0.Seen.Bits, .string x0.Peer.Addr, iv x0.Peer.Seq] (ones_of rfl) ?_))
  intro h hs
  obtain rfl := si H
  exact st 3 [] (k_retQ ⟨[.agg #[.slice a21 x0.Key.length p22, iv x0.Dir, iv x0.Seen.Top, .int .u64 x0.Seen.Bits, .string x0.Peer.Addr, iv x0.Peer.Seq], .slice none 0 0, (.iface t47 u48)], (.cons (.agg (by kernel_rfl) (by kernel_rfl) (by kernel_rfl) ((hs.bl d0).seg_ 0 6 (Nat.le_of_ble_eq_true rfl))) (.cons (.tmp (by kernel_rfl)) (.cons (.tmp (by kernel_rfl)) .nil))), I, _, ⟨a21, p22, x0.Key.length, none, 0, 0, ((.iface t47 u48)), rfl, rfl⟩, hs.pk (.c d7 (.f imON (.c d2 .n)))⟩)
 rw [if_pos c46] at H
 refine st 12 [false] (k_op (lN (hs.bl d0) 0 2 ?_))
 refine st 1 [] (k_op (sN (hs.f d6) 2 [iv t42.1.Top, .int .u64 t42.1.Bits] [.slice a21 x0.Key.length p22, iv x0.Dir, iv t42.1.Top, .int .u64 t42.1.Bits, .string x0.Peer.Addr, iv x0.Peer.Seq] (ones_of rfl) ?_))
 intro h hs
 refine st 5 [] (k_op (lB (hs.bl d3) 1 rfl ?_))
 refine st 2 [] (k_op (lB (hs.bl d0) 5 rfl ?_))
 refine k_ite H (fun c49 H => ?_) (fun c49 H => ?_)
 ·refine st 5 [true] (k_op (lB (hs.bl d3) 1 rfl ?_))
  refine st 2 [] (k_op (sN hs 4 [.string x1, iv t31.1.Seq] [.slice a21 x0.Key.length p22, iv x0.Dir, iv t42.1.Top, .int .u64 t42.1.Bits, .string x1, iv t31.1.Seq] (ones_of rfl) ?_))
  intro h hs
  refine st 2 [] ?_
  obtain ⟨hs0, bk0⟩ := (hs.f d6).call tk1 (.c (qL d0) (.c (qL d3) .n))
  have hs := hs0
  refine k_regD hs0 4 ?_
  refine aG 0 rfl hs.keep (lls hs0 d1 0 6 rfl) (nmL hs0 d1) ?_
  refine aRun [1] 4 hs.keep ?_
  refine aL 2 rfl hs.keep (ll hs0 d2 (n := 2) rfl) (nmL hs0 d2) ?_
  refine aO1 3 rfl (sN0 hs [.slice a21 x0.Key.length p22, iv x0.Dir, iv t42.1.Top, .int .u64 t42.1.Bits, .string x1, iv t31.1.Seq] (ones_of rfl) ?_)
  intro h hs
  refine ⟨hs.keep, ?_⟩
  replace hs := hs.pk (.c d0 .n)
  replace hs := bk0 hs ct1 rfl
  refine aOL 4 rfl (owp_pure (.slice a32 t31.1.Body.length p33) (by kernel_rfl) ?_)
  refine aOL 5 rfl (owp_pure .nilIface (by kernel_rfl) ?_)
  refine aEnd ?_
  obtain rfl := si H
  exact k_retQ ⟨[.agg #[.slice a21 x0.Key.length p22, iv x0.Dir, iv t42.1.Top, .int .u64 t42.1.Bits, .string x1, iv t31.1.Seq], .slice a32 t31.1.Body.length p33, .nilIface], (.cons (.agg (by kernel_rfl) (by kernel_rfl) (by kernel_rfl) ((hs.bl d0).seg_ 0 6 (Nat.le_of_ble_eq_true rfl))) (.cons (.tmp (by kernel_rfl)) (.cons (.tmp (by kernel_rfl)) .nil))), I, _, ⟨a21, p22, x0.Key.length, a32, p33, t31.1.Body.length, (.nilIface), rfl, rfl⟩, hs.pk (.c d7 (.c d5 (.f imEN .n)))⟩
 refine st 4 [false] ?_
 obtain ⟨hs0, bk0⟩ := (hs.f d6).call tk1 (.c (qL d0) (.c (qL d3) .n))
 have hs := hs0
 refine k_regD hs0 4 ?_
 refine aG 0 rfl hs.keep (lls hs0 d1 0 6 rfl) (nmL hs0 d1) ?_
 refine aRun [1] 4 hs.keep ?_
 refine aL 2 rfl hs.keep (ll hs0 d2 (n := 2) rfl) (nmL hs0 d2) ?_
 refine aO1 3 rfl (sN0 hs [.slice a21 x0.Key.length p22, iv x0.Dir, iv t42.1.Top, .int .u64 t42.1.Bits, .string x0.Peer.Addr, iv x0.Peer.Seq] (ones_of rfl) ?_)
 intro h hs
 refine ⟨hs.keep, ?_⟩
 replace hs := hs.pk (.c d0 .n)
 replace hs := bk0 hs ct1 rfl
 refine aOL 4 rfl (owp_pure (.slice a32 t31.1.Body.length p33) (by kernel_rfl) ?_)
 refine aOL 5 rfl (owp_pure .nilIface (by kernel_rfl) ?_)
 refine aEnd ?_
 obtain rfl := si H
 exact k_retQ ⟨[.agg #[.slice a21 x0.Key.length p22, iv x0.Dir, iv t42.1.Top, .int .u64 t42.1.Bits, .string x0.Peer.Addr, iv x0.Peer.Seq], .slice a32 t31.1.Body.length p33, .nilIface], (.cons (.agg (by kernel_rfl) (by kernel_rfl) (by kernel_rfl) ((hs.bl d0).seg_ 0 6 (Nat.le_of_ble_eq_true rfl))) (.cons (.tmp (by kernel_rfl)) (.cons (.tmp (by kernel_rfl)) .nil))), I, _, ⟨a21, p22, x0.Key.length, a32, p33, t31.1.Body.length, (.nilIface), rfl, rfl⟩, hs.pk (.c d7 (.c d5 (.f imEN .n)))⟩
def piece_four.m (x0 : (List Int)) : Option Int :=
  (if 0 < (x0.length : Int) then (if 1 < (x0.length : Int) then (if 2 < (x0.length : Int) then (if 3 < (x0.length : Int) then (some (bOr .i64 (bOr .i64 (bOr .i64 (shl .i64 (w64 ((at_ x0 0))) 24) (shl .i64 (w64 ((at_ x0 1))) 16)) (shl .i64 (w64 ((at_ x0 2))) 8)) (w64 ((at_ x0 3))))) else none) else none) else none) else none)
theorem piece_four.calls {G : Gh} {x0 : (List Int)} {a21 : Option Addr} {p22 : Nat} {n23 : Nat} {h : Heap} {r : Int} (H : piece_four.m x0 = some r)  (s25 : Sn (tInt .u8) G h a21 p22 n23 x0) :
    Ret Tryz.prog 205 #[.slice a21 n23 p22] h (fun v h' => iv r = v ∧ h' = h) := by
 unfold piece_four.m at H
 obtain rfl := s25.len.symm
 refine fn_of (rs := [.tmp 2]) (N := 25) Tryz.func205 rfl rfl rfl rfl ?_
 refine st 5 [] (k_regP 23 ?_)
 obtain ⟨c26, H⟩ := guard_pos H
 refine aRun [0] 22 Keep.refl ?_
 refine aP 1 (elemPtr a21 ((0 : Int).toNat * 1)) rfl (pI (e := 5) (ik := .i64) s25 (by decide) c26) Keep.refl ?_
 refine aL 2 rfl Keep.refl (s25.cell1 (by decide) c26) (fun _ _ x => x) ?_
 obtain ⟨c27, H⟩ := guard_pos H
 refine aRun [3, 4, 5] 17 Keep.refl ?_
 refine aP 6 (elemPtr a21 ((1 : Int).toNat * 1)) rfl (pI (e := 5) (ik := .i64) s25 (by decide) c27) Keep.refl ?_
 refine aL 7 rfl Keep.refl (s25.cell1 (by decide) c27) (fun _ _ x => x) ?_
 obtain ⟨c28, H⟩ := guard_pos H
 refine aRun [8, 9, 10, 11] 11 Keep.refl ?_
 refine aP 12 (elemPtr a21 ((2 : Int).toNat * 1)) rfl (pI (e := 5) (ik := .i64) s25 (by decide) c28) Keep.refl ?_
 refine aL 13 rfl Keep.refl (s25.cell1 (by decide) c28) (fun _ _ x => x) ?_
 obtain ⟨c29, H⟩ := guard_pos H
 refine aRun [14, 15, 16, 17] 5 Keep.refl ?_
 refine aP 18 (elemPtr a21 ((3 : Int).toNat * 1)) rfl (pI (e := 5) (ik := .i64) s25 (by decide) c29) Keep.refl ?_
 refine aL 19 rfl Keep.refl (s25.cell1 (by decide) c29) (fun _ _ x => x) ?_
 refine aRun [20, 21, 22] 0 Keep.refl ?_
 refine aEnd ?_
 obtain rfl := si H
 exact k_retQ ⟨_, by kernel_rfl, rfl, rfl⟩
def piece_Read.m (x0 : (List Int)) : Option (api_Pack × GoErr) :=
  (letJ (α := Bool → Option (api_Pack × GoErr)) (fun (x27 : Bool) => (bif x27 then (some ((⟨0, 0, false, []⟩ : api_Pack), (GoErr.no 2))) else (if 8 < (x0.length : Int) then (if (at_ x0 8) > 1 then (some ((⟨0, 0, false, []⟩ : api_Pack), (GoErr.no 3))) else (letJ (α := Int → Int → (List Int) → Option (api_Pack × GoErr)) (fun (x63 : Int) (x64 : Int) (x65 : List Int) => ((piece_may.m (⟨x63, x64, ((at_ x0 8) == 1), x65⟩ : api_Pack)).bind fun t71 => bif t71 then (some ((⟨x63, x64, ((at_ x0 8) == 1), x65⟩ : api_Pack), GoErr.nil)) else (some ((⟨0, 0, false, []⟩ : api_Pack), (GoErr.no 1))))) fun (j70 : Int → Int → (List Int) → Option (api_Pack × GoErr)) => (if 4 ≤ (x0.length : Int) then (if 9 ≤ (x0.length : Int) then ((piece_four.m x0).bind fun t33 => ((piece_four.m (sub x0 4 (x0.length : Int))).bind fun t34 => ((slices_Clone_bytes.m (sub x0 9 (x0.length : Int))).bind fun t35 => (j70 t33 t34 t35)))) else none) else none))) else none))) fun (j28 : Bool → Option (api_Pack × GoErr)) => (if (x0.length : Int) < 9 then (j28 true) else (j28 false)))
theorem piece_Read.calls {B I : Gh} {h : Heap} {x0 : (List Int)} {a21 : Option Addr} {p22 : Nat} {n23 : Nat} {r : (api_Pack × GoErr)} (H : piece_Read.m x0 = some r)  :
    Fc Tryz.prog 142 #[.slice a21 n23 p22] [rR (tInt .u8) .b a21 p22 n23 x0] B I h (fun v L => ∃ a74 p75 n76 v78, v = .tuple #[.agg #[iv r.1.Ack, iv r.1.Num, .bool r.1.Last, .slice a74 n76 p75], v78] ∧ L = [rO (tInt .u8) .i a74 p75 n76 r.1.Data, rE .i v78 r.2]) := by
 refine fc_of fun E hs => ?_
 unfold piece_Read.m at H
 cases hs.nR d0
 refine fn_of2 (rs := [.cell 2 108, .tmp 3]) (N := 37) Tryz.func142 rfl rfl rfl rfl ?_
 refine st 2 [] (k_op (nA hs [iv 0, iv 0, .bool false, .slice none 0 0] (.agg #[iv 0, iv 0, .bool false, .slice none 0 0]) ?_))
 intro b25 h hs
 refine st 5 [] ?_
 obtain ⟨j28, e73, H⟩ := letJ_some H
 refine k_joinT (fun T ρ h => ∃ (x27 : Bool), ∃ I, j28 x27 = some r ∧ Fits [(0, .slice a21 x0.length p22), (2, pv b25), (5, .bool x27)] ρ ∧ St E T I h) hs tl0 ?_ ?_
 ·refine st 3 [] (k_ite H (fun c26 H => ?_) (fun c26 H => ?_))
  ·exact st 2 [] (k_end ⟨true, I, H, ft, hs⟩)
  exact st 2 [] (k_end ⟨false, I, H, ft, hs⟩)
 clear H
 rintro ρ h ⟨x27, I, H, hf, hs⟩
 refine k_fits _ hf ?_ rfl
 subst e73
 try dsimp only at H
 cases x27
 rotate_left
 ·rw [cond_true] at H
  refine st 5 [true] (k_op (sN0 hs [iv 0, iv 0, .bool false, .slice none 0 0] (ones_of rfl) ?_))
  intro h hs
  obtain rfl := si H
  exact st 2 [] (k_retQ ⟨[.agg #[iv 0, iv 0, .bool false, .slice none 0 0], .iface 137 (iv 2)], (.cons (.agg (by kernel_rfl) (by kernel_rfl) (by kernel_rfl) ((hs.bl d0).seg_ 0 4 (Nat.le_of_ble_eq_true rfl))) (.cons (.tmp (by kernel_rfl)) .nil)), I, _, ⟨none, 0, 0, (.iface 137 (iv 2)), rfl, rfl⟩, hs.pk (.f imON (.f imEC .n))⟩)
 rw [cond_false] at H
 obtain ⟨c29, H⟩ := guard_pos H
 refine st 4 [false] (k_val (elemPtr a21 ((8 : Int).toNat * 1)) (pI (e := 5) (ik := .i64) (hs.sR d1) (by decide) c29) ?_)
 refine k_op (lC ((hs.sR d1).cell1 (by decide) c29) ?_)
 refine k_ite H (fun c30 H => ?_) (fun c30 H => ?_)
 ·refine st 7 [true] (k_op (sN0 hs [iv 0, iv 0, .bool false, .slice none 0 0] (ones_of rfl) ?_))
  intro h hs
  obtain rfl := si H
  exact st 2 [] (k_retQ ⟨[.agg #[iv 0, iv 0, .bool false, .slice none 0 0], .iface 137 (iv 3)], (.cons (.agg (by kernel_rfl) (by kernel_rfl) (by kernel_rfl) ((hs.bl d0).seg_ 0 4 (Nat.le_of_ble_eq_true rfl))) (.cons (.tmp (by kernel_rfl)) .nil)), I, _, ⟨none, 0, 0, (.iface 137 (iv 3)), rfl, rfl⟩, hs.pk (.f imON (.f imEC .n))⟩)
 refine st 6 [false] ?_
 obtain ⟨j70, e72, H⟩ := letJ_some H
 refine k_joinT (fun T ρ h => ∃ (x63 : Int) (x64 : Int) (x65 : List Int), ∃ b62 a66 p67 n68 I, j70 x63 x64 x65 = some r ∧ Fits [(2, pv b25), (4, pv b62)] ρ ∧ St E (rO (tInt .u8) .i a66 p67 n68 x65 :: rB b62 [iv x63, iv x64, .bool ((at_ x0 8) == 1), .slice a66 n68 p67] 108 :: T) I h) hs tl0 ?_ ?_
 rotate_left
 ·clear H
  rintro ρ h ⟨x63, x64, x65, b62, a66, p67, n68, I, H, hf, hs⟩
  refine k_fits _ hf ?_ rfl
  subst e72
  try dsimp only at H
  cases hs.nO d0
  refine st 3 [] (k_op (lN (hs.bl d1) 0 4 ?_))
  obtain ⟨hk, bk⟩ := hs.call tk0 (.c (qO d0) .n)
  refine k_call H (fun _ m => piece_may.calls m hk) ?_
  rintro t71 _ h H ⟨I, _, ⟨rfl, rfl⟩, hk⟩
  replace hs := bk hk ct0 rfl
  cases t71
  ·rw [cond_false] at H
   refine st 7 [true] (k_op (sN0 (hs.f d2) [iv 0, iv 0, .bool false, .slice none 0 0] (ones_of rfl) ?_))
   intro h hs
   obtain rfl := si H
   exact st 2 [] (k_retQ ⟨[.agg #[iv 0, iv 0, .bool false, .slice none 0 0], .iface 137 (iv 1)], (.cons (.agg (by kernel_rfl) (by kernel_rfl) (by kernel_rfl) ((hs.bl d0).seg_ 0 4 (Nat.le_of_ble_eq_true rfl))) (.cons (.tmp (by kernel_rfl)) .nil)), I, _, ⟨none, 0, 0, (.iface 137 (iv 1)), rfl, rfl⟩, hs.pk (.f imON (.f imEC .n))⟩)
  rw [cond_true] at H
  refine st 6 [false] (k_op (lN (hs.bl d1) 0 4 ?_))
  refine k_op (sN0 (hs.f d2) [iv x63, iv x64, .bool ((at_ x0 8) == 1), .slice a66 x65.length p67] (ones_of rfl) ?_)
  intro h hs
  obtain rfl := si H
  exact st 2 [] (k_retQ ⟨[.agg #[iv x63, iv x64, .bool ((at_ x0 8) == 1), .slice a66 x65.length p67], .nilIface], (.cons (.agg (by kernel_rfl) (by kernel_rfl) (by kernel_rfl) ((hs.bl d0).seg_ 0 4 (Nat.le_of_ble_eq_true rfl))) (.cons (.tmp (by kernel_rfl)) .nil)), I, _, ⟨a66, p67, x65.length, (.nilIface), rfl, rfl⟩, hs.pk (.c d1 (.f imEN .n))⟩)
 obtain ⟨hs0, bk0⟩ := hs.call tk0 (.c (qB d1) .n)
 have hs := hs0
 refine k_regD hs0 14 ?_
 obtain ⟨c31, H⟩ := guard_pos H
 refine aRun [0, 2] 13 hs.keep ?_
 refine aP 3 (.slice (slA a21 p22 (Int.toNat (4 : Int)) 1) ((sub x0 4 (x0.length : Int)).length) (p22 - Int.toNat (4 : Int))) rfl (pSl (e := 5) (k1 := .i64) (hs.sR d0) (by decide) c31 (Int.le_refl _)) hs.keep ?_
 refine aRun [5] 11 hs.keep ?_
 refine aP 6 (elemPtr a21 ((8 : Int).toNat * 1)) rfl (pI (e := 5) (ik := .i64) (hs.sR d0) (by decide) c29) hs.keep ?_
 refine aL 7 rfl hs.keep ((hs0.sR d0).cell1 (by decide) c29) (nmR hs0 d0 (by decide) c29) ?_
 obtain ⟨c32, H⟩ := guard_pos H
 refine aRun [8, 9] 7 hs.keep ?_
 refine aP 10 (.slice (slA a21 p22 (Int.toNat (9 : Int)) 1) ((sub x0 9 (x0.length : Int)).length) (p22 - Int.toNat (9 : Int))) rfl (pSl (e := 5) (k1 := .i64) (hs.sR d0) (by decide) c32 (Int.le_refl _)) hs.keep ?_
 refine aT2 1 13 ?_ ?_
 rotate_left
 ·refine aA rfl (nA hs [iv 0, iv 0, .bool false, .slice none 0 0] (.agg #[iv 0, iv 0, .bool false, .slice none 0 0]) ?_)
  intro b54 h hs
  refine ⟨hs.keep, ?_⟩
  refine aO1 1 rfl (o_call H (fun _ m => piece_four.calls m (hs.sR d1)) ?_)
  rintro t55 _ _ H ⟨rfl, rfl⟩
  refine ⟨hs.keep, ?_⟩
  refine aO1 4 rfl (o_call H (fun _ m => piece_four.calls m (Sn.part (hs.sR d1) (lo := 4) (hi := (x0.length : Int)) (by decide) c31 (Int.le_refl _))) ?_)
  rintro t56 _ _ H ⟨rfl, rfl⟩
  refine ⟨hs.keep, ?_⟩
  obtain ⟨hk, bk⟩ := hs.call tk0 (.c (qP (qB d1) (lo := 9) (hi := (x0.length : Int)) (by decide) c32 (Int.le_refl _)) .n)
  refine aO1 11 rfl (o_call H (fun _ m => slices_Clone_bytes.calls m hk) ?_)
  rintro t57 _ h H ⟨I, _, ⟨a58, p59, n60, rfl, rfl⟩, hk⟩
  replace hs := bk hk ct1 rfl
  cases hs.nO d0
  refine ⟨hs.keep, ?_⟩
  refine aRun [12] 1 hs.keep ?_
  replace hs := hs.pk (.c d0 (.c d0 .n))
  replace hs := bk0 hs ct2 rfl
  refine aOL 14 rfl (sN0 (hs.f d1) [iv t55, iv t56, .bool ((at_ x0 8) == 1), .slice a58 t57.length p59] (ones_of rfl) ?_)
  intro h hs
  refine aEnd ?_
  exact k_end ⟨t55, t56, t57, b54, a58, p59, t57.length, I, H, ft, hs.pk (.c d1 (.c d0 pk0))⟩
 refine aA rfl (o_call H (fun _ m => piece_four.calls m (hs.sR d0)) ?_)
 rintro t33 _ _ H ⟨rfl, rfl⟩
 refine ⟨hs.keep, ?_⟩
 refine aT2 4 13 ?_ ?_
 rotate_left
 ·refine aA rfl (nA hs [iv 0, iv 0, .bool false, .slice none 0 0] (.agg #[iv 0, iv 0, .bool false, .slice none 0 0]) ?_)
  intro b47 h hs
  refine ⟨hs.keep, ?_⟩
  refine aO1 4 rfl (o_call H (fun _ m => piece_four.calls m (Sn.part (hs.sR d1) (lo := 4) (hi := (x0.length : Int)) (by decide) c31 (Int.le_refl _))) ?_)
  rintro t48 _ _ H ⟨rfl, rfl⟩
  refine ⟨hs.keep, ?_⟩
  obtain ⟨hk, bk⟩ := hs.call tk0 (.c (qP (qB d1) (lo := 9) (hi := (x0.length : Int)) (by decide) c32 (Int.le_refl _)) .n)
  refine aO1 11 rfl (o_call H (fun _ m => slices_Clone_bytes.calls m hk) ?_)
  rintro t49 _ h H ⟨I, _, ⟨a50, p51, n52, rfl, rfl⟩, hk⟩
  replace hs := bk hk ct1 rfl
  cases hs.nO d0
  refine ⟨hs.keep, ?_⟩
  refine aRun [12] 1 hs.keep ?_
  replace hs := hs.pk (.c d0 (.c d0 .n))
  replace hs := bk0 hs ct2 rfl
  refine aOL 14 rfl (sN0 (hs.f d1) [iv t33, iv t48, .bool ((at_ x0 8) == 1), .slice a50 t49.length p51] (ones_of rfl) ?_)
  intro h hs
  refine aEnd ?_
  exact k_end ⟨t33, t48, t49, b47, a50, p51, t49.length, I, H, ft, hs.pk (.c d1 (.c d0 pk0))⟩
 refine aA rfl (o_call H (fun _ m => piece_four.calls m (Sn.part (hs.sR d0) (lo := 4) (hi := (x0.length : Int)) (by decide) c31 (Int.le_refl _))) ?_)
 rintro t34 _ _ H ⟨rfl, rfl⟩
 refine ⟨hs.keep, ?_⟩
 refine aT2 11 13 ?_ ?_
 ·obtain ⟨hk, bk⟩ := hs.call tk0 (.c (qP (qB d0) (lo := 9) (hi := (x0.length : Int)) (by decide) c32 (Int.le_refl _)) .n)
  refine aA rfl (o_call H (fun _ m => slices_Clone_bytes.calls m hk) ?_)
  rintro t35 _ h H ⟨I, _, ⟨a36, p37, n38, rfl, rfl⟩, hk⟩
  replace hs := bk hk ct1 rfl
  cases hs.nO d0
  refine ⟨hs.keep, ?_⟩
  refine aRun [12] 2 hs.keep ?_
  refine aO1 13 rfl (nA hs [iv 0, iv 0, .bool false, .slice none 0 0] (.agg #[iv 0, iv 0, .bool false, .slice none 0 0]) ?_)
  intro b40 h hs
  refine ⟨hs.keep, ?_⟩
  replace hs := hs.pk (.c d0 (.c d0 .n))
  replace hs := bk0 hs ct2 rfl
  refine aOL 14 rfl (sN0 hs [iv t33, iv t34, .bool ((at_ x0 8) == 1), .slice a36 t35.length p37] (ones_of rfl) ?_)
  intro h hs
  refine aEnd ?_
  exact k_end ⟨t33, t34, t35, b40, a36, p37, t35.length, I, H, ft, hs.pk (.c d1 (.c d0 pk0))⟩
 refine aA rfl (nA hs [iv 0, iv 0, .bool false, .slice none 0 0] (.agg #[iv 0, iv 0, .bool false, .slice none 0 0]) ?_)
 intro b41 h hs
 refine ⟨hs.keep, ?_⟩
 obtain ⟨hk, bk⟩ := hs.call tk0 (.c (qP (qB d1) (lo := 9) (hi := (x0.length : Int)) (by decide) c32 (Int.le_refl _)) .n)
 refine aO1 11 rfl (o_call H (fun _ m => slices_Clone_bytes.calls m hk) ?_)
 rintro t42 _ h H ⟨I, _, ⟨a43, p44, n45, rfl, rfl⟩, hk⟩
 replace hs := bk hk ct1 rfl
 cases hs.nO d0
 refine ⟨hs.keep, ?_⟩
 refine aRun [12] 1 hs.keep ?_
 replace hs := hs.pk (.c d0 (.c d0 .n))
 replace hs := bk0 hs ct2 rfl
 refine aOL 14 rfl (sN0 (hs.f d1) [iv t33, iv t34, .bool ((at_ x0 8) == 1), .slice a43 t42.length p44] (ones_of rfl) ?_)
 intro h hs
 refine aEnd ?_
 exact k_end ⟨t33, t34, t42, b41, a43, p44, t42.length, I, H, ft, hs.pk (.c d1 (.c d0 pk0))⟩
def slices_Clone_api_Pack.m (x0 : (List api_Pack)) : Option (List api_Pack) :=
  ((app [] x0).bind fun l29 => (some l29))
theorem slices_Clone_api_Pack.calls {B I : Gh} {h : Heap} {x0 : (List api_Pack)} {a21 : Option Addr} {p22 : Nat} {n23 : Nat} {r : (List api_Pack)} (H : slices_Clone_api_Pack.m x0 = some r)  :
    Fc Tryz.prog 251 #[.slice a21 n23 p22] [rP t_api_Pack a21 p22 n23 x0] B I h (fun v L => ∃ a34 p35 n36, v = .slice a34 n36 p35 ∧ L = [rO t_api_Pack .i a34 p35 n36 r]) := by
 refine fc_of fun E hs => ?_
 unfold slices_Clone_api_Pack.m at H
 cases hs.nP d0
 refine fn_of (rs := [.tmp 2]) (N := 8) Tryz.func251 rfl rfl rfl rfl ?_
 rcases a21 with _ | ad25
 ·have e26 := ((hs.sP d0).toSl.nil rfl).1
  replace H : (some []) = some r := by simpa [app, Lim, e26] using H
  obtain rfl := si H
  exact st 15 [true] (k_retQ ⟨_, by kernel_rfl, I, _, ⟨none, 0, 0, rfl, rfl⟩, hs.pk (.f imON .n)⟩)
 refine st 14 [false] (k_op (nS (e := 108) hs .i t_api_Pack ([] : List api_Pack) [] 4 (.agg #[iv 0, iv 0, .bool false, .slice none 0 0]) (.nil : Reps t_api_Pack (Cl.G .i E.B I) h [] []) ?_))
 intro b27 h hs
 obtain ⟨l29, m30, H⟩ := bind_some H
 refine st 1 [] (k_op (aO (e := 108) (bytes := 48) hs (hs.sP d1) m30 ?_))
 intro a31 p32 h hs
 obtain rfl := si H
 exact st 2 [] (k_retQ ⟨_, by kernel_rfl, I, _, ⟨a31, p32, l29.length, rfl, rfl⟩, hs.pk (.c d0 .n)⟩)
def line_Line_acked_1.m (x0 : api_Pack) (x1 : Int) : Option Bool :=
  (some (decide (x0.Num > x1)))
theorem line_Line_acked_1.calls {B I : Gh} {h : Heap} {x0 : api_Pack} {x1 : Int} {a21 : Option Addr} {p22 : Nat} {n23 : Nat} {b1 : Nat} {r : Bool} (H : line_Line_acked_1.m x0 x1 = some r)  :
    Fc Tryz.prog 250 #[.agg #[iv x0.Ack, iv x0.Num, .bool x0.Last, .slice a21 n23 p22], pv b1] [rR (tInt .u8) .b a21 p22 n23 x0.Data, rL b1 [iv x1] 3] B I h (fun v L => v = .bool r ∧ L = []) := by
 refine fc_of fun E hs => ?_
 unfold line_Line_acked_1.m at H
 cases hs.nR d0
 refine fn_of (rs := [.tmp 3]) (N := 8) Tryz.func250 rfl rfl rfl rfl ?_
 refine st 2 [] (k_op (nB hs [iv x0.Ack, iv x0.Num, .bool x0.Last, .slice a21 x0.Data.length p22] ?_))
 intro b25 h hs
 refine st 5 [] (k_op (lB (hs.bl d0) 1 rfl ?_))
 refine k_op (lC (ll hs d2 (n := 0) rfl) ?_)
 obtain rfl := si H
 exact st 3 [] (k_retQ ⟨_, by kernel_rfl, I, _, ⟨rfl, rfl⟩, hs.pk .n⟩)
def slices_IndexFunc_api_Pack__line_Line_acked_1.l1.m (K : Nat) (x0 : (List api_Pack)) (x2 : Int) : Nat → Int → Option (Int ⊕ (Unit))
  | 0, _ => none
  | k + 1, x25 => (letJ (α := Bool → Option (Int ⊕ (Unit))) (fun (x30 : Bool) => (bif x30 then (if 0 ≤ x25 then (if x25 < (x0.length : Int) then ((line_Line_acked_1.m (at_ x0 x25) x2).bind fun t42 => bif t42 then (some (Sum.inl x25)) else (slices_IndexFunc_api_Pack__line_Line_acked_1.l1.m K x0 x2 k (w64 (x25 + 1)))) else none) else none) else (some (Sum.inr ())))) fun (j31 : Bool → Option (Int ⊕ (Unit))) => (if x25 < (x0.length : Int) then (j31 true) else (j31 false)))
def slices_IndexFunc_api_Pack__line_Line_acked_1.m (K : Nat) (x0 : (List api_Pack)) (x2 : Int) : Option Int :=
  ((slices_IndexFunc_api_Pack__line_Line_acked_1.l1.m K x0 x2 K 0).bind fun s26 => match s26 with | .inl q => (some q) | .inr _ => (some (-1)))
theorem slices_IndexFunc_api_Pack__line_Line_acked_1.calls {B I : Gh} {h : Heap} {K : Nat} {x0 : (List api_Pack)} {x2 : Int} {a21 : Option Addr} {p22 : Nat} {n23 : Nat} {b2 : Nat} {r : Int} (H : slices_IndexFunc_api_Pack__line_Line_acked_1.m K x0 x2 = some r)  :
    Fc Tryz.prog 249 #[.slice a21 n23 p22, .func (.func 250) #[] #[pv b2]] [rR t_api_Pack .b a21 p22 n23 x0, rL b2 [iv x2] 3] B I h (fun v L => v = iv r ∧ L = []) := by
 refine fc_of fun E hs => ?_
 unfold slices_IndexFunc_api_Pack__line_Line_acked_1.m at H
 cases hs.nR d0
 refine fn_of (rs := [.tmp 4]) (N := 19) Tryz.func249 rfl rfl rfl rfl ?_
 refine st 12 [] ?_
 obtain ⟨s26, m28, HR27⟩ := bind_some H
 refine k_loopT hs tl0 0 (fun T k' ρ h => ∃ (x25 : Int), ∃ I, slices_IndexFunc_api_Pack__line_Line_acked_1.l1.m K x0 x2 k' x25 = some s26 ∧ Fits [(0, .slice a21 x0.length p22), (1, .func (.func 250) #[] #[pv b2]), (7, iv (x0.length : Int)), (8, iv x25)] ρ ∧ St E T I h) (fun T ρ h => ∃ I, Sum.inr () = s26 ∧ Fits [] ρ ∧ St E T I h) K ⟨0, I, m28, ft, hs⟩ ?_ rfl ?_
 rotate_left
 ·rintro ρ h ⟨I, rfl, hf, hs⟩
  have H := HR27
  try dsimp only at H
  refine k_fits _ hf ?_ rfl
  obtain rfl := si H
  exact st 4 [] (k_retQ ⟨_, by kernel_rfl, I, _, ⟨rfl, rfl⟩, hs.pk .n⟩)
 clear m28 H
 rintro k' ρ h ⟨x25, I, H, hf, hs⟩
 cases k' with
 | zero => cases H
 | succ k =>
  rw [slices_IndexFunc_api_Pack__line_Line_acked_1.l1.m] at H
  refine k_fits _ hf ?_ rfl
  refine st 1 [] ?_
  obtain ⟨j31, e43, H⟩ := letJ_some H
  refine k_joinT (fun T ρ h => ∃ (x30 : Bool), ∃ I, j31 x30 = some s26 ∧ Fits [(0, .slice a21 x0.length p22), (1, .func (.func 250) #[] #[pv b2]), (7, iv (x0.length : Int)), (8, iv x25), (9, .bool x30)] ρ ∧ St E T I h) hs tl0 ?_ ?_
  ·refine st 1 [] (k_ite H (fun c29 H => ?_) (fun c29 H => ?_))
   ·exact st 1 [] (k_end ⟨true, I, H, ft, hs⟩)
   exact st 1 [] (k_end ⟨false, I, H, ft, hs⟩)
  clear H
  rintro ρ h ⟨x30, I, H, hf, hs⟩
  refine k_fits _ hf ?_ rfl
  subst e43
  try dsimp only at H
  cases x30
  ·rw [cond_false] at H
   refine st 2 [false] (k_out rfl ?_)
   obtain rfl := si H
   exact xE ⟨I, rfl, trivial, hs⟩
  rw [cond_true] at H
  obtain ⟨c32, H⟩ := guard_pos H
  obtain ⟨c33, H⟩ := guard_pos H
  refine st 15 [true] (k_val (elemPtr a21 (x25.toNat * 4)) (pI (e := 108) (ik := .i64) (hs.sR d0) c32 c33) ?_)
  obtain ⟨y35, g34, q36⟩ := (hs.sR d0).toSl.seg c32 c33
  obtain ⟨a37, p38, n39, rfl, q41⟩ := t_api_Pack.open_ q36
  obtain rfl := q41.2
  replace hs := hs.pR q41
  refine k_op (lG g34 ?_)
  obtain ⟨hk, bk⟩ := hs.call tk0 (.c (qB d0) (.c (qLL d2) .n))
  refine k_call H (fun _ m => line_Line_acked_1.calls m hk) ?_
  rintro t42 _ h H ⟨I, _, ⟨rfl, rfl⟩, hk⟩
  replace hs := bk hk ct0 rfl
  cases t42
  ·rw [cond_false] at H
   exact st 8 [false] (k_endL ⟨k, Nat.lt_succ_self _, (w64 (x25 + 1)), I, H, ft, hs.pk pk1⟩)
  rw [cond_true] at H
  refine st 7 [true] (k_retQ (krL ?_))
  obtain rfl := si H
  obtain rfl := Option.some.inj HR27
  exact ⟨_, by kernel_rfl, I, _, ⟨rfl, rfl⟩, hs.pk .n⟩
def line_Line_acked.m (K : Nat) (x0 : line_Line) (x1 : Int) : Option line_Line :=
  ((slices_IndexFunc_api_Pack__line_Line_acked_1.m K x0.queue' x1).bind fun t28 => (letJ (α := Int → Option line_Line) (fun (x30 : Int) => (letJ (α := Bool → Option line_Line) (fun (x33 : Bool) => (bif x33 then (if 0 ≤ x30 then (if x30 ≤ (x0.queue'.length : Int) then ((slices_Clone_api_Pack.m (sub x0.queue' x30 (x0.queue'.length : Int))).bind fun t37 => ((line_Line_now.m (⟨t37, x0.given', x0.await', x0.kept', x0.coming', x0.wait', x0.left', x0.owes'⟩ : line_Line)).bind fun t42 => (some (⟨t37, t42.given', t42.await', x0.kept', x0.coming', t42.wait', t42.left', t42.owes'⟩ : line_Line)))) else none) else none) else (some x0))) fun (j34 : Bool → Option line_Line) => (if x30 > 0 then (j34 true) else (j34 false)))) fun (j31 : Int → Option line_Line) => (if t28 < 0 then (j31 (x0.queue'.length : Int)) else (j31 t28))))
theorem line_Line_acked.calls {B I : Gh} {h : Heap} {K : Nat} {x0 : line_Line} {x1 : Int} {b0 : Nat} {a21 : Option Addr} {p22 : Nat} {n23 : Nat} {v25 : Value} {v26 : Value} {r : line_Line} (H : line_Line_acked.m K x0 x1 = some r)  :
    Fc Tryz.prog 206 #[pv b0, iv x1] [rB b0 [.slice a21 n23 p22, iv x0.given', iv x0.await', v25, v26, iv x0.wait', iv x0.left', .bool x0.owes'] 239, rO t_api_Pack .i a21 p22 n23 x0.queue'] B I h (fun v L => ∃ a45 p46 n47, v = .tuple #[] ∧ L = [rB b0 [.slice a45 n47 p46, iv r.given', iv r.await', v25, v26, iv r.wait', iv r.left', .bool r.owes'] 239, rO t_api_Pack .i a45 p46 n47 r.queue']) := by
 refine fc_of fun E hs => ?_
 unfold line_Line_acked.m at H
 cases hs.nO d1
 refine fn_of (rs := []) (N := 32) Tryz.func206 rfl rfl rfl rfl ?_
 refine st 2 [] (k_op (nB hs [iv x1] ?_))
 intro b27 h hs
 refine st 6 [] (k_op (lB (hs.bl d1) 0 rfl ?_))
 obtain ⟨hk, bk⟩ := hs.call tk0 (.c (qO d2) (.c (qL d0) .n))
 refine st 1 [] (k_call H (fun _ m => slices_IndexFunc_api_Pack__line_Line_acked_1.calls m hk) ?_)
 rintro t28 _ h H ⟨I, _, ⟨rfl, rfl⟩, hk⟩
 replace hs := bk hk ct0 rfl
 refine st 3 [] ?_
 obtain ⟨j31, e44, H⟩ := letJ_some H
 refine k_joinT (fun T ρ h => ∃ (x30 : Int), ∃ I, j31 x30 = some r ∧ Fits [(0, pv b0), (4, iv x30)] ρ ∧ St E T I h) hs tl0 ?_ ?_
 ·refine st 3 [] (k_ite H (fun c29 H => ?_) (fun c29 H => ?_))
  ·refine st 6 [true] (k_op (lB (hs.bl d1) 0 rfl ?_))
   exact st 3 [] (k_end ⟨(x0.queue'.length : Int), I, H, ft, hs⟩)
  exact st 3 [false] (k_end ⟨t28, I, H, ft, hs⟩)
 clear H
 rintro ρ h ⟨x30, I, H, hf, hs⟩
 refine k_fits _ hf ?_ rfl
 subst e44
 try dsimp only at H
 refine st 1 [] ?_
 obtain ⟨j34, e43, H⟩ := letJ_some H
 refine k_joinT (fun T ρ h => ∃ (x33 : Bool), ∃ I, j34 x33 = some r ∧ Fits [(0, pv b0), (4, iv x30), (19, .bool x33)] ρ ∧ St E T I h) hs tl0 ?_ ?_
 ·refine st 2 [] (k_ite H (fun c32 H => ?_) (fun c32 H => ?_))
  ·exact st 1 [] (k_end ⟨true, I, H, ft, hs⟩)
  exact st 1 [] (k_end ⟨false, I, H, ft, hs⟩)
 clear H
 rintro ρ h ⟨x33, I, H, hf, hs⟩
 refine k_fits _ hf ?_ rfl
 subst e43
 try dsimp only at H
 cases x33
 ·rw [cond_false] at H
  refine st 2 [false] (k_fin ?_)
  obtain rfl := si H
  exact ⟨_, by kernel_rfl, I, _, ⟨a21, p22, x0.queue'.length, rfl, rfl⟩, hs.pk (.c d1 (.c d1 .n))⟩
 rw [cond_true] at H
 refine st 7 [true] (k_op (lB (hs.bl d1) 0 rfl ?_))
 obtain ⟨c35, H⟩ := guard_pos H
 obtain ⟨c36, H⟩ := guard_pos H
 refine st 1 [] (k_val (.slice (slA a21 p22 (Int.toNat x30) 4) ((sub x0.queue' x30 (x0.queue'.length : Int)).length) (p22 - Int.toNat x30)) (pSl (e := 108) (k1 := .i64) (hs.sO d2) c35 c36 (Int.le_refl _)) ?_)
 obtain ⟨hk, bk⟩ := hs.call tk0 (.c (qPM (qMO d2) (lo := x30) (hi := (x0.queue'.length : Int)) c35 c36 (Int.le_refl _)) .n)
 refine k_call H (fun _ m => slices_Clone_api_Pack.calls m hk) ?_
 rintro t37 _ h H ⟨I, _, ⟨a38, p39, n40, rfl, rfl⟩, hk⟩
 replace hs := bk hk ct1 rfl
 cases hs.nO d0
 refine st 2 [] (k_op (sB (v := .slice a38 t37.length p39) (hs.f d2) cw0 ?_))
 intro h hs
 obtain ⟨hk, bk⟩ := hs.call tk1 .n
 refine st 3 [] (k_call H (fun _ m => line_Line_now.calls m hk) ?_)
 rintro t42 _ h H ⟨I, _, ⟨rfl, rfl⟩, hk⟩
 replace hs := bk hk ct1 rfl
 refine st 1 [] (k_fin ?_)
 obtain rfl := si H
 exact ⟨_, by kernel_rfl, I, _, ⟨a38, p39, t37.length, rfl, rfl⟩, hs.pk (.c d0 (.c d0 .n))⟩
def line_Line_drain.l1.m (K : Nat) (x0 : line_Line) : Nat → (List (List Int)) → Int → (List (Int × api_Pack)) → (List Int) → Option ((List (List Int)) × GoErr × line_Line)
  | 0, _, _, _, _ => none
  | k + 1, x27, x32, x33, x34 => (letJ (α := Int → Int → Bool → (List Int) → Bool → Option ((List (List Int)) × GoErr × line_Line)) (fun (x64 : Int) (x65 : Int) (x66 : Bool) (x67 : List Int) (x72 : Bool) => (bif x72 then (if (w64 ((x34.length : Int) + (x67.length : Int))) > 8192 then (some (x27, (GoErr.no 6), (⟨x0.queue', x0.given', x32, (mdel x33 x32), x34, x0.wait', x0.left', x0.owes'⟩ : line_Line))) else ((app x34 x67).bind fun l76 => (letJ (α := Bool → Option ((List (List Int)) × GoErr × line_Line)) (fun (x82 : Bool) => (bif x82 then ((app x27 [l76]).bind fun l86 => (line_Line_drain.l1.m K x0 k l86 (w64 (x32 + 1)) (mdel x33 x32) [])) else (line_Line_drain.l1.m K x0 k x27 (w64 (x32 + 1)) (mdel x33 x32) l76))) fun (j83 : Bool → Option ((List (List Int)) × GoErr × line_Line)) => (bif x66 then (j83 true) else (j83 false))))) else (some (x27, GoErr.nil, (⟨x0.queue', x0.given', x32, x33, x34, x0.wait', x0.left', x0.owes'⟩ : line_Line))))) fun (j73 : Int → Int → Bool → (List Int) → Bool → Option ((List (List Int)) × GoErr × line_Line)) => (mcase (mget x33 x32) (j73 0 0 false [] false) (fun y42 => (j73 y42.Ack y42.Num y42.Last y42.Data true))))
def line_Line_drain.m (K : Nat) (x0 : line_Line) : Option ((List (List Int)) × GoErr × line_Line) :=
  (line_Line_drain.l1.m K x0 K [] x0.await' x0.kept' x0.coming')
theorem line_Line_drain.calls {B I : Gh} {h : Heap} {K : Nat} {x0 : line_Line} {b0 : Nat} {v21 : Value} {b22 : Nat} {a23 : Option Addr} {p24 : Nat} {n25 : Nat} {r : ((List (List Int)) × GoErr × line_Line)} (H : line_Line_drain.m K x0 = some r)  :
    Fc Tryz.prog 207 #[pv b0] [rB b0 [v21, iv x0.given', iv x0.await', .map (some b22), .slice a23 n25 p24, iv x0.wait', iv x0.left', .bool x0.owes'] 239, rM t_api_Pack b22 x0.kept', rO (tInt .u8) .i a23 p24 n25 x0.coming'] B I h (fun v L => ∃ a93 p94 n95 v97 a99 p100 n101, v = .tuple #[.slice a93 n95 p94, v97] ∧ L = [rO (tSl (tInt .u8)) .i a93 p94 n95 r.1, rE .i v97 r.2.1, rB b0 [v21, iv r.2.2.given', iv r.2.2.await', .map (some b22), .slice a99 n101 p100, iv r.2.2.wait', iv r.2.2.left', .bool r.2.2.owes'] 239, rM t_api_Pack b22 r.2.2.kept', rO (tInt .u8) .i a99 p100 n101 r.2.2.coming']) := by
 refine fc_of fun E hs => ?_
 unfold line_Line_drain.m at H
 cases hs.nO d2
 refine fn_of (rs := [.tmp 2, .tmp 3]) (N := 71) Tryz.func207 rfl rfl rfl rfl ?_
 refine st 10 [] (k_loopR (fun k' ρ h => ∃ (x27 : List (List Int)) (x32 : Int) (x33 : List (Int × api_Pack)) (x34 : List Int), ∃ a28 p29 n30 a35 p36 n37 I, line_Line_drain.l1.m K x0 k' x27 x32 x33 x34 = some r ∧ Fits [(0, pv b0), (4, .slice a28 n30 p29)] ρ ∧ St E [rO (tSl (tInt .u8)) .i a28 p29 n30 x27, rM t_api_Pack b22 x33, rO (tInt .u8) .i a35 p36 n37 x34, rB b0 [v21, iv x0.given', iv x32, .map (some b22), .slice a35 n37 p36, iv x0.wait', iv x0.left', .bool x0.owes'] 239] I h) K ⟨[], x0.await', x0.kept', x0.coming', none, 0, 0, a23, p24, x0.coming'.length, I, H, ft, hs.pk (.f imON (.c d1 (.c d1 (.c d0 .n))))⟩ ?_)
 clear H
 rintro k' ρ h ⟨x27, x32, x33, x34, a28, p29, n30, a35, p36, n37, I, H, hf, hs⟩
 cases k' with
 | zero => cases H
 | succ k =>
  rw [line_Line_drain.l1.m] at H
  refine k_fits _ hf ?_ rfl
  cases hs.nO d0
  cases hs.nO d2
  refine st 2 [] ?_
  obtain ⟨j73, e92, H⟩ := letJ_some H
  refine k_joinT (fun T ρ h => ∃ (x64 : Int) (x65 : Int) (x66 : Bool) (x67 : List Int) (x72 : Bool), ∃ b63 a68 p69 n70 I, j73 x64 x65 x66 x67 x72 = some r ∧ Fits [(0, pv b0), (4, .slice a28 x27.length p29), (5, pv b63), (6, .bool x72)] ρ ∧ St E (rR (tInt .u8) .i a68 p69 n70 x67 :: rB b63 [iv x64, iv x65, .bool x66, .slice a68 n70 p69] 108 :: T) I h) hs tl0 ?_ ?_
  ·obtain ⟨hs0, bk0⟩ := (hs.f d1).call tk1 (.c (qL d2) .n)
   have hs := hs0
   refine k_regD hs0 14 ?_
   refine aRun [0, 1, 2] 12 hs.keep ?_
   refine aL 3 rfl hs.keep (ll hs0 d1 (n := 3) rfl) (nmL hs0 d1) ?_
   refine aRun [4, 5, 6] 8 hs.keep ?_
   refine aL 7 rfl hs.keep (ll hs0 d1 (n := 2) rfl) (nmL hs0 d1) ?_
   refine aT2 8 12 ?_ ?_
   ·refine aA rfl (mL (T := t_api_Pack) (kt := 3) (et := 108) hs d0 x32 (.agg #[iv 0, iv 0, .bool false, .slice none 0 0]) (fun e44 => ?_) (fun y42 c43 e44 q45 => ?_))
    ·replace H := mc_n e44 H
     refine ⟨hs.keep, ?_⟩
     refine aRun [9, 10, 11] 3 hs.keep ?_
     refine aO1 12 rfl (nA hs [iv 0, iv 0, .bool false, .slice none 0 0] (.agg #[iv 0, iv 0, .bool false, .slice none 0 0]) ?_)
     intro b46 h hs
     refine ⟨hs.keep, ?_⟩
     refine aO1 13 rfl (sN0 hs [iv 0, iv 0, .bool false, .slice none 0 0] (ones_of rfl) ?_)
     intro h hs
     refine ⟨hs.keep, ?_⟩
     replace hs := hs.pk (.c d0 (.c d0 .n))
     replace hs := bk0 hs ct2 rfl
     refine aOL 14 rfl (owp_pure (.bool false) (by kernel_rfl) ?_)
     refine aEnd ?_
     exact k_end ⟨0, 0, false, [], false, b46, none, 0, 0, I, H, ft, hs.pk (.f imRN (.c d0 (.c d1 (.c d0 (.c d0 (.c d0 .n))))))⟩
    replace H := mc_s e44 H
    obtain ⟨a47, p48, n49, rfl, q51⟩ := t_api_Pack.open_ q45
    refine ⟨hs.keep, ?_⟩
    obtain rfl := q51.2
    replace hs := hs.pR (k := .i) q51
    refine aRun [9, 10, 11] 3 hs.keep ?_
    refine aO1 12 rfl (nA hs [iv 0, iv 0, .bool false, .slice none 0 0] (.agg #[iv 0, iv 0, .bool false, .slice none 0 0]) ?_)
    intro b52 h hs
    refine ⟨hs.keep, ?_⟩
    refine aO1 13 rfl (sN0 hs [iv y42.Ack, iv y42.Num, .bool y42.Last, .slice a47 y42.Data.length p48] (ones_of rfl) ?_)
    intro h hs
    refine ⟨hs.keep, ?_⟩
    replace hs := hs.pk (.c d0 (.c d0 (.c d0 .n)))
    replace hs := bk0 hs ct3 rfl
    refine aOL 14 rfl (owp_pure (.bool true) (by kernel_rfl) ?_)
    refine aEnd ?_
    exact k_end ⟨y42.Ack, y42.Num, y42.Last, y42.Data, true, b52, a47, p48, y42.Data.length, I, H, ft, hs.pk (.c d1 (.c d0 (.c d1 (.c d0 (.c d0 (.c d0 .n))))))⟩
   refine aA rfl (nA hs [iv 0, iv 0, .bool false, .slice none 0 0] (.agg #[iv 0, iv 0, .bool false, .slice none 0 0]) ?_)
   intro b53 h hs
   refine ⟨hs.keep, ?_⟩
   refine aO1 8 rfl (mL (T := t_api_Pack) (kt := 3) (et := 108) hs d1 x32 (.agg #[iv 0, iv 0, .bool false, .slice none 0 0]) (fun e56 => ?_) (fun y54 c55 e56 q57 => ?_))
   ·replace H := mc_n e56 H
    refine ⟨hs.keep, ?_⟩
    refine aRun [9, 10, 11] 2 hs.keep ?_
    refine aO1 13 rfl (sN0 hs [iv 0, iv 0, .bool false, .slice none 0 0] (ones_of rfl) ?_)
    intro h hs
    refine ⟨hs.keep, ?_⟩
    replace hs := hs.pk (.c d0 (.c d0 .n))
    replace hs := bk0 hs ct2 rfl
    refine aOL 14 rfl (owp_pure (.bool false) (by kernel_rfl) ?_)
    refine aEnd ?_
    exact k_end ⟨0, 0, false, [], false, b53, none, 0, 0, I, H, ft, hs.pk (.f imRN (.c d0 (.c d1 (.c d0 (.c d0 (.c d0 .n))))))⟩
   replace H := mc_s e56 H
   obtain ⟨a58, p59, n60, rfl, q62⟩ := t_api_Pack.open_ q57
   refine ⟨hs.keep, ?_⟩
   obtain rfl := q62.2
   replace hs := hs.pR (k := .i) q62
   refine aRun [9, 10, 11] 2 hs.keep ?_
   refine aO1 13 rfl (sN0 (hs.f d1) [iv y54.Ack, iv y54.Num, .bool y54.Last, .slice a58 y54.Data.length p59] (ones_of rfl) ?_)
   intro h hs
   refine ⟨hs.keep, ?_⟩
   replace hs := hs.pk (.c d0 (.c d0 (.c d0 .n)))
   replace hs := bk0 hs ct3 rfl
   refine aOL 14 rfl (owp_pure (.bool true) (by kernel_rfl) ?_)
   refine aEnd ?_
   exact k_end ⟨y54.Ack, y54.Num, y54.Last, y54.Data, true, b53, a58, p59, y54.Data.length, I, H, ft, hs.pk (.c d1 (.c d0 (.c d1 (.c d0 (.c d0 (.c d0 .n))))))⟩
  clear H
  rintro ρ h ⟨x64, x65, x66, x67, x72, b63, a68, p69, n70, I, H, hf, hs⟩
  refine k_fits _ hf ?_ rfl
  subst e92
  try dsimp only at H
  cases hs.nR d0
  refine st 3 [] (k_if H (fun c74 H => ?_) (fun c74 H => ?_))
  rotate_left
  ·obtain rfl := si H
   exact st 9 [true] (k_retQ (krJ ⟨_, by kernel_rfl, I, _, ⟨a28, p29, x27.length, (.nilIface), a35, p36, x34.length, rfl, rfl⟩, hs.pk (.c d2 (.f imEN (.c d4 (.c d2 (.c d2 .n)))))⟩))
  refine st 5 [false] ?_
  obtain ⟨hs0, bk0⟩ := hs.call tk0 (.c (qL d5) .n)
  have hs := hs0
  refine k_regD hs0 8 ?_
  refine aRun [0, 1, 2] 6 hs.keep ?_
  refine aL 3 rfl hs.keep (ll hs0 d0 (n := 3) rfl) (nmL hs0 d0) ?_
  refine aRun [4, 5, 6] 2 hs.keep ?_
  refine aL 7 rfl hs.keep (ll hs0 d0 (n := 2) rfl) (nmL hs0 d0) ?_
  replace hs := hs.pk .n
  replace hs := bk0 hs ct0 rfl
  replace hs := (hs.f d3)
  refine aOL 8 rfl (mD (kt := 3) (et := 108) hs x32 ?_)
  intro h hs
  refine aEnd ?_
  refine st 2 [] ?_
  obtain ⟨hs0, bk0⟩ := hs.call tk0 (.c (qL d5) (.c (qL d2) .n))
  have hs := hs0
  refine k_regD hs0 10 ?_
  refine aRun [0, 1, 2] 7 hs.keep ?_
  refine aL 3 rfl hs.keep (ll hs0 d0 (n := 4) rfl) (nmL hs0 d0) ?_
  refine aRun [4, 5] 4 hs.keep ?_
  refine aL 6 rfl hs.keep (ll hs0 d1 (n := 3) rfl) (nmL hs0 d1) ?_
  refine aRun [7, 8] 1 hs.keep ?_
  by_cases c75 : (w64 ((x34.length : Int) + (x67.length : Int))) > 8192
  ·rw [if_pos c75] at H
   refine aP 9 (.bool true) rfl (pr_bool (by kernel_rfl) (decide_eq_true c75)) hs.keep ?_
   replace hs := hs.pk .n
   replace hs := bk0 hs ct0 rfl
   refine aEnd ?_
   obtain rfl := si H
   exact st 8 [true] (k_retQ (krJ ⟨_, by kernel_rfl, I, _, ⟨a28, p29, x27.length, (.iface 137 (iv 6)), a35, p36, x34.length, rfl, rfl⟩, hs.pk (.c d3 (.f imEC (.c d4 (.c d0 (.c d2 .n)))))⟩))
  rw [if_neg c75] at H
  refine aP 9 (.bool false) rfl (pr_bool (by kernel_rfl) (decide_eq_false c75)) hs.keep ?_
  replace hs := hs.pk .n
  replace hs := bk0 hs ct0 rfl
  refine aEnd ?_
  refine st 7 [false] (k_op (lB (hs.bl d5) 2 rfl ?_))
  refine st 3 [] (k_op (sB (v := iv (w64 (x32 + 1))) (hs.f d5) cw2 ?_))
  intro h hs
  refine st 2 [] ?_
  obtain ⟨hs0, bk0⟩ := (hs.f d5).call tk1 (.c (qL d0) (.c (qL d3) (.c (qK d2) .n)))
  have hs := hs0
  refine k_regD hs0 8 ?_
  refine aRun [0, 1, 2, 3] 7 hs.keep ?_
  refine aL 4 rfl hs.keep (ll hs0 d1 (n := 4) rfl) (nmL hs0 d1) ?_
  refine aRun [5] 5 hs.keep ?_
  refine aL 6 rfl hs.keep (ll hs0 d2 (n := 3) rfl) (nmL hs0 d2) ?_
  obtain ⟨l76, m77, H⟩ := bind_some H
  refine aO1 7 rfl (aO (e := 5) (bytes := 1) hs (hs.sR d3) m77 ?_)
  intro a78 p79 h hs
  refine ⟨hs.keep, ?_⟩
  replace hs := hs.pk (.c d0 .n)
  replace hs := bk0 hs ct1 rfl
  refine aOL 8 rfl (owp_pure (pv b0) (by kernel_rfl) ?_)
  refine aOL 9 rfl (owp_pure (.pointer (some ⟨b0, 4, none⟩)) (by kernel_rfl) ?_)
  refine aOL 10 rfl (sB (v := .slice a78 l76.length p79) (hs.f d1) cw4 ?_)
  intro h hs
  refine aEnd ?_
  refine st 1 [] ?_
  obtain ⟨j83, e91, H⟩ := letJ_some H
  refine k_join (fun ρ h => ∃ (x82 : Bool), ∃ I, j83 x82 = some r ∧ Fits [(0, pv b0), (4, .slice a28 x27.length p29), (60, .bool x82)] ρ ∧ St E [rM t_api_Pack b22 (mdel x33 x32), rO (tInt .u8) .i a78 p79 l76.length l76, rB b0 [v21, iv x0.given', iv (w64 (x32 + 1)), .map (some b22), .slice a78 l76.length p79, iv x0.wait', iv x0.left', .bool x0.owes'] 239, rO (tSl (tInt .u8)) .i a28 p29 x27.length x27] I h) ?_ ?_
  ·refine st 2 [] (k_op (lB (hs.bl d4) 2 rfl ?_))
   refine k_spl H (fun c81 H => ?_) (fun c81 H => ?_)
   ·exact st 1 [] (k_end ⟨true, I, H, ft, hs.pk (.c d2 (.c d1 (.c d0 (.c d2 .n))))⟩)
   exact st 1 [] (k_end ⟨false, I, H, ft, hs.pk (.c d2 (.c d1 (.c d0 (.c d2 .n))))⟩)
  clear H
  rintro ρ h ⟨x82, I, H, hf, hs⟩
  refine k_fits _ hf ?_ rfl
  subst e91
  try dsimp only at H
  cases x82
  ·rw [cond_false] at H
   exact st 3 [false] (k_end ⟨k, Nat.lt_succ_self _, x27, (w64 (x32 + 1)), (mdel x33 x32), l76, a28, p29, x27.length, a78, p79, l76.length, I, H, ft, hs.pk (.c d3 (.c d0 (.c d0 (.c d0 .n))))⟩)
  rw [cond_true] at H
  refine st 7 [true] (k_op (lB (hs.bl d2) 4 rfl ?_))
  obtain ⟨I, hs⟩ := (hs.f d1).fO
  refine k_op (nS (e := 31) hs .i (tSl (tInt .u8)) ([l76] : List (List Int)) [.slice a78 l76.length p79] 1 (.slice none 0 0) (Reps.cons (T := (tSl (tInt .u8))) (c := [.slice a78 l76.length p79]) (x := l76) ⟨_, _, _, rfl, (hs.g d0)⟩ (.nil : Reps (tSl (tInt .u8)) (Cl.G .i E.B I) h [] [])) ?_)
  intro b84 h hs
  replace hs := (hs.f d4)
  obtain ⟨l86, m87, H⟩ := bind_some H
  refine k_op (aO (e := 31) (bytes := 24) hs (hs.sO d1) m87 ?_)
  intro a88 p89 h hs
  refine st 3 [] (k_op (sB (v := .slice none 0 0) (hs.f d4) cw4 ?_))
  intro h hs
  exact st 2 [] (k_end ⟨k, Nat.lt_succ_self _, l86, (w64 (x32 + 1)), (mdel x33 x32), [], a88, p89, l86.length, none, 0, 0, I, H, ft, hs.pk (.c d1 (.c d3 (.f imON (.c d0 .n))))⟩)
def line_Line_Hear.m (K : Nat) (x0 : line_Line) (x1 : api_Pack) : Option ((List (List Int)) × GoErr × line_Line) :=
  ((piece_Write.m K x1).bind fun t35 => (if t35.2 = GoErr.nil then (if x1.Ack > x0.given' then (some ([], (GoErr.no 14), x0)) else ((line_Line_acked.m K x0 x1.Ack).bind fun t46 => (if x1.Num = 0 then (some ([], GoErr.nil, (⟨t46.queue', t46.given', t46.await', x0.kept', x0.coming', t46.wait', t46.left', t46.owes'⟩ : line_Line))) else (letJ (α := Bool → Option ((List (List Int)) × GoErr × line_Line)) (fun (x73 : Bool) => (letJ (α := Bool → Option ((List (List Int)) × GoErr × line_Line)) (fun (x78 : Bool) => (bif x78 then ((slices_Clone_bytes.m x1.Data).bind fun t80 => ((line_Line_drain.m K (⟨t46.queue', t46.given', t46.await', (mput x0.kept' x1.Num (⟨x1.Ack, x1.Num, x1.Last, t80⟩ : api_Pack)), x0.coming', t46.wait', t46.left', true⟩ : line_Line)).bind fun t85 => (some (t85.1, t85.2.1, (⟨t46.queue', t85.2.2.given', t85.2.2.await', t85.2.2.kept', t85.2.2.coming', t85.2.2.wait', t85.2.2.left', t85.2.2.owes'⟩ : line_Line))))) else ((line_Line_drain.m K (⟨t46.queue', t46.given', t46.await', x0.kept', x0.coming', t46.wait', t46.left', true⟩ : line_Line)).bind fun t96 => (some (t96.1, t96.2.1, (⟨t46.queue', t96.2.2.given', t96.2.2.await', t96.2.2.kept', t96.2.2.coming', t96.2.2.wait', t96.2.2.left', t96.2.2.owes'⟩ : line_Line)))))) fun (j79 : Bool → Option ((List (List Int)) × GoErr × line_Line)) => (bif x73 then (j79 false) else (if x1.Num ≥ t46.await' then (if x1.Num < (w64 (t46.await' + 8)) then (j79 true) else (j79 false)) else (j79 false))))) fun (j74 : Bool → Option ((List (List Int)) × GoErr × line_Line)) => (mcase (mget x0.kept' x1.Num) (j74 false) (fun y52 => (j74 true))))))) else (some ([], t35.2, x0))))
theorem line_Line_Hear.calls {B I : Gh} {h : Heap} {K : Nat} {x0 : line_Line} {x1 : api_Pack} {b0 : Nat} {a21 : Option Addr} {p22 : Nat} {n23 : Nat} {b25 : Nat} {a26 : Option Addr} {p27 : Nat} {n28 : Nat} {a30 : Option Addr} {p31 : Nat} {n32 : Nat} {r : ((List (List Int)) × GoErr × line_Line)} (H : line_Line_Hear.m K x0 x1 = some r)  :
    Fc Tryz.prog 143 #[pv b0, .agg #[iv x1.Ack, iv x1.Num, .bool x1.Last, .slice a30 n32 p31]] [rB b0 [.slice a21 n23 p22, iv x0.given', iv x0.await', .map (some b25), .slice a26 n28 p27, iv x0.wait', iv x0.left', .bool x0.owes'] 239, rO t_api_Pack .i a21 p22 n23 x0.queue', rM t_api_Pack b25 x0.kept', rO (tInt .u8) .i a26 p27 n28 x0.coming', rR (tInt .u8) .b a30 p31 n32 x1.Data] B I h (fun v L => ∃ a109 p110 n111 v113 a115 p116 n117 a119 p120 n121, v = .tuple #[.slice a109 n111 p110, v113] ∧ L = [rO (tSl (tInt .u8)) .i a109 p110 n111 r.1, rE .i v113 r.2.1, rB b0 [.slice a115 n117 p116, iv r.2.2.given', iv r.2.2.await', .map (some b25), .slice a119 n121 p120, iv r.2.2.wait', iv r.2.2.left', .bool r.2.2.owes'] 239, rO t_api_Pack .i a115 p116 n117 r.2.2.queue', rM t_api_Pack b25 r.2.2.kept', rO (tInt .u8) .i a119 p120 n121 r.2.2.coming']) := by
 refine fc_of fun E hs => ?_
 unfold line_Line_Hear.m at H
 cases hs.nO d1
 cases hs.nO d3
 cases hs.nR d4
 refine fn_of (rs := [.tmp 4, .tmp 5]) (N := 82) Tryz.func143 rfl rfl rfl rfl ?_
 refine st 2 [] (k_op (nB hs [iv x1.Ack, iv x1.Num, .bool x1.Last, .slice a30 x1.Data.length p31] ?_))
 intro b34 h hs
 refine st 6 [] (k_op (lN (hs.bl d0) 0 4 ?_))
 obtain ⟨hk, bk⟩ := hs.call tk0 (.c (qB d5) .n)
 refine k_call H (fun _ m => piece_Write.calls m hk) ?_
 rintro t35 _ h H ⟨I, _, ⟨a36, p37, n38, v40, rfl, rfl⟩, hk⟩
 replace hs := bk hk ct2 rfl
 cases hs.nO d0
 rcases (hs.er d1).cases with ⟨c42, rfl⟩ | ⟨c42, t43, u44, rfl⟩
 rotate_left
 ·rw [if_neg c42] at H
  obtain rfl := si H
  exact st 18 [true] (k_retQ ⟨_, by kernel_rfl, I, _, ⟨none, 0, 0, ((.iface t43 u44)), a21, p22, x0.queue'.length, a26, p27, x0.coming'.length, rfl, rfl⟩, hs.pk (.f imON (.c d1 (.c d2 (.c d2 (.c d2 (.c d2 .n))))))⟩)
 rw [if_pos c42] at H
 refine st 15 [false] ?_
 obtain ⟨hs0, bk0⟩ := hs.call tk0 (.c (qL d2) (.c (qL d3) .n))
 have hs := hs0
 refine k_regD hs0 7 ?_
 refine aRun [0] 6 hs.keep ?_
 refine aL 1 rfl hs.keep (ll hs0 d0 (n := 0) rfl) (nmL hs0 d0) ?_
 refine aRun [2, 3, 4] 2 hs.keep ?_
 refine aL 5 rfl hs.keep (ll hs0 d1 (n := 1) rfl) (nmL hs0 d1) ?_
 by_cases c45 : x1.Ack > x0.given'
 ·rw [if_pos c45] at H
  refine aP 6 (.bool true) rfl (pr_bool (by kernel_rfl) (decide_eq_true c45)) hs.keep ?_
  replace hs := hs.pk .n
  replace hs := bk0 hs ct0 rfl
  refine aEnd ?_
  obtain rfl := si H
  exact st 7 [true] (k_retQ ⟨_, by kernel_rfl, I, _, ⟨none, 0, 0, (.iface 137 (iv 14)), a21, p22, x0.queue'.length, a26, p27, x0.coming'.length, rfl, rfl⟩, hs.pk (.f imON (.f imEC (.c d3 (.c d3 (.c d3 (.c d3 .n))))))⟩)
 rw [if_neg c45] at H
 refine aP 6 (.bool false) rfl (pr_bool (by kernel_rfl) (decide_eq_false c45)) hs.keep ?_
 replace hs := hs.pk .n
 replace hs := bk0 hs ct0 rfl
 refine aEnd ?_
 refine st 6 [false] (k_op (lB (hs.bl d2) 0 rfl ?_))
 obtain ⟨hk, bk⟩ := ((hs.f d4).f d4).call tk2 .n
 refine k_call H (fun _ m => line_Line_acked.calls m hk) ?_
 rintro t46 _ h H ⟨I, _, ⟨a47, p48, n49, rfl, rfl⟩, hk⟩
 replace hs := bk hk ct2 rfl
 cases hs.nO d1
 refine st 5 [] (k_op (lB (hs.bl d4) 1 rfl ?_))
 refine k_ite H (fun c51 H => ?_) (fun c51 H => ?_)
 ·obtain rfl := si H
  exact st 7 [true] (k_retQ ⟨_, by kernel_rfl, I, _, ⟨none, 0, 0, (.nilIface), a47, p48, t46.queue'.length, a26, p27, x0.coming'.length, rfl, rfl⟩, hs.pk (.f imON (.f imEN (.c d0 (.c d0 (.c d3 (.c d3 .n))))))⟩)
 refine st 8 [false] (k_op (sB (v := .bool true) hs cw7 ?_))
 intro h hs
 refine st 3 [] ?_
 obtain ⟨j74, e108, H⟩ := letJ_some H
 refine k_joinT (fun T ρ h => ∃ (x73 : Bool), ∃ I, j74 x73 = some r ∧ Fits [(0, pv b0), (3, pv b34), (9, .bool x73)] ρ ∧ St E T I h) hs tl0 ?_ ?_
 ·obtain ⟨hs0, bk0⟩ := (hs.f d5).call tk1 (.c (qL d0) (.c (qL d4) .n))
  have hs := hs0
  refine k_regD hs0 12 ?_
  refine aRun [0, 1, 2] 10 hs.keep ?_
  refine aL 3 rfl hs.keep (ll hs0 d1 (n := 3) rfl) (nmL hs0 d1) ?_
  refine aRun [4] 8 hs.keep ?_
  refine aL 5 rfl hs.keep (ll hs0 d2 (n := 1) rfl) (nmL hs0 d2) ?_
  refine aT2 6 10 ?_ ?_
  ·refine aA rfl (mL (T := t_api_Pack) (kt := 3) (et := 108) hs d0 x1.Num (.agg #[iv 0, iv 0, .bool false, .slice none 0 0]) (fun e54 => ?_) (fun y52 c53 e54 q55 => ?_))
   ·replace H := mc_n e54 H
    refine ⟨hs.keep, ?_⟩
    refine aRun [7, 8, 9] 3 hs.keep ?_
    refine aO1 10 rfl (nA hs [iv 0, iv 0, .bool false, .slice none 0 0] (.agg #[iv 0, iv 0, .bool false, .slice none 0 0]) ?_)
    intro b56 h hs
    refine ⟨hs.keep, ?_⟩
    refine aO1 11 rfl (sN0 hs [iv 0, iv 0, .bool false, .slice none 0 0] (ones_of rfl) ?_)
    intro h hs
    refine ⟨hs.keep, ?_⟩
    replace hs := hs.pk (.c d0 (.c d0 .n))
    replace hs := bk0 hs ct2 rfl
    refine aOL 12 rfl (owp_pure (.bool false) (by kernel_rfl) ?_)
    refine aEnd ?_
    exact k_end ⟨false, I, H, ft, hs.pk (.c d2 (.c d2 (.c d2 (.c d2 (.c d2 (.c d1 (.c d1 (.c d1 .n))))))))⟩
   replace H := mc_s e54 H
   obtain ⟨a57, p58, n59, rfl, q61⟩ := t_api_Pack.open_ q55
   refine ⟨hs.keep, ?_⟩
   obtain rfl := q61.2
   replace hs := hs.pR (k := .i) q61
   refine aRun [7, 8, 9] 3 hs.keep ?_
   refine aO1 10 rfl (nA hs [iv 0, iv 0, .bool false, .slice none 0 0] (.agg #[iv 0, iv 0, .bool false, .slice none 0 0]) ?_)
   intro b62 h hs
   refine ⟨hs.keep, ?_⟩
   refine aO1 11 rfl (sN0 hs [iv y52.Ack, iv y52.Num, .bool y52.Last, .slice a57 y52.Data.length p58] (ones_of rfl) ?_)
   intro h hs
   refine ⟨hs.keep, ?_⟩
   replace hs := hs.pk (.c d0 (.c d0 (.c d0 .n)))
   replace hs := bk0 hs ct3 rfl
   refine aOL 12 rfl (owp_pure (.bool true) (by kernel_rfl) ?_)
   refine aEnd ?_
   exact k_end ⟨true, I, H, ft, hs.pk (.c d3 (.c d3 (.c d3 (.c d3 (.c d3 (.c d2 (.c d2 (.c d2 .n))))))))⟩
  refine aA rfl (nA hs [iv 0, iv 0, .bool false, .slice none 0 0] (.agg #[iv 0, iv 0, .bool false, .slice none 0 0]) ?_)
  intro b63 h hs
  refine ⟨hs.keep, ?_⟩
  refine aO1 6 rfl (mL (T := t_api_Pack) (kt := 3) (et := 108) hs d1 x1.Num (.agg #[iv 0, iv 0, .bool false, .slice none 0 0]) (fun e66 => ?_) (fun y64 c65 e66 q67 => ?_))
  ·replace H := mc_n e66 H
   refine ⟨hs.keep, ?_⟩
   refine aRun [7, 8, 9] 2 hs.keep ?_
   refine aO1 11 rfl (sN0 hs [iv 0, iv 0, .bool false, .slice none 0 0] (ones_of rfl) ?_)
   intro h hs
   refine ⟨hs.keep, ?_⟩
   replace hs := hs.pk (.c d0 (.c d0 .n))
   replace hs := bk0 hs ct2 rfl
   refine aOL 12 rfl (owp_pure (.bool false) (by kernel_rfl) ?_)
   refine aEnd ?_
   exact k_end ⟨false, I, H, ft, hs.pk (.c d2 (.c d2 (.c d2 (.c d2 (.c d2 (.c d1 (.c d1 (.c d1 .n))))))))⟩
  replace H := mc_s e66 H
  obtain ⟨a68, p69, n70, rfl, q72⟩ := t_api_Pack.open_ q67
  refine ⟨hs.keep, ?_⟩
  obtain rfl := q72.2
  replace hs := hs.pR (k := .i) q72
  refine aRun [7, 8, 9] 2 hs.keep ?_
  refine aO1 11 rfl (sN0 (hs.f d1) [iv y64.Ack, iv y64.Num, .bool y64.Last, .slice a68 y64.Data.length p69] (ones_of rfl) ?_)
  intro h hs
  refine ⟨hs.keep, ?_⟩
  replace hs := hs.pk (.c d0 (.c d0 (.c d0 .n)))
  replace hs := bk0 hs ct3 rfl
  refine aOL 12 rfl (owp_pure (.bool true) (by kernel_rfl) ?_)
  refine aEnd ?_
  exact k_end ⟨true, I, H, ft, hs.pk (.c d3 (.c d3 (.c d3 (.c d3 (.c d3 (.c d2 (.c d2 (.c d2 .n))))))))⟩
 clear H
 rintro ρ h ⟨x73, I, H, hf, hs⟩
 refine k_fits _ hf ?_ rfl
 subst e108
 try dsimp only at H
 refine st 1 [] ?_
 obtain ⟨j79, e107, H⟩ := letJ_some H
 refine k_joinT (fun T ρ h => ∃ (x78 : Bool), ∃ I, j79 x78 = some r ∧ Fits [(0, pv b0), (3, pv b34), (66, .bool x78)] ρ ∧ St E T I h) hs tl0 ?_ ?_
 ·obtain ⟨hs0, bk0⟩ := hs.call tk0 (.c (qL d4) (.c (qL d0) .n))
  have hs := hs0
  refine k_regD hs0 21 ?_
  rcases bool_or x73 with c75 | c75
  rotate_left
  ·replace H := bif_t c75 H
   refine aP 0 (.bool true) rfl (pr_bool (by kernel_rfl) c75) hs.keep ?_
   refine aRun [1, 2, 3, 4, 5, 6, 7, 8, 9, 10, 11, 12, 13, 14, 15, 16, 17, 18, 19, 20] 0 hs.keep ?_
   replace hs := hs.pk .n
   replace hs := bk0 hs ct0 rfl
   refine aEnd ?_
   exact k_end ⟨false, I, H, ft, hs⟩
  replace H := bif_f c75 H
  refine aP 0 (.bool false) rfl (pr_bool (by kernel_rfl) c75) hs.keep ?_
  refine aRun [1, 2, 3] 17 hs.keep ?_
  refine aL 4 rfl hs.keep (ll hs0 d0 (n := 1) rfl) (nmL hs0 d0) ?_
  refine aRun [5, 6, 7] 13 hs.keep ?_
  refine aL 8 rfl hs.keep (ll hs0 d1 (n := 2) rfl) (nmL hs0 d1) ?_
  by_cases c76 : x1.Num ≥ t46.await'
  rotate_left
  ·rw [if_neg c76] at H
   refine aP 9 (.bool false) rfl (pr_bool (by kernel_rfl) (decide_eq_false c76)) hs.keep ?_
   refine aRun [10, 11, 12, 13, 14, 15, 16, 17, 18, 19, 20] 0 hs.keep ?_
   replace hs := hs.pk .n
   replace hs := bk0 hs ct0 rfl
   refine aEnd ?_
   exact k_end ⟨false, I, H, ft, hs⟩
  rw [if_pos c76] at H
  refine aP 9 (.bool true) rfl (pr_bool (by kernel_rfl) (decide_eq_true c76)) hs.keep ?_
  refine aRun [10, 11, 12] 8 hs.keep ?_
  refine aL 13 rfl hs.keep (ll hs0 d0 (n := 1) rfl) (nmL hs0 d0) ?_
  refine aRun [14, 15, 16] 4 hs.keep ?_
  refine aL 17 rfl hs.keep (ll hs0 d1 (n := 2) rfl) (nmL hs0 d1) ?_
  refine aRun [18] 2 hs.keep ?_
  by_cases c77 : x1.Num < (w64 (t46.await' + 8))
  ·rw [if_pos c77] at H
   refine aP 19 (.bool true) rfl (pr_bool (by kernel_rfl) (decide_eq_true c77)) hs.keep ?_
   refine aRun [20] 0 hs.keep ?_
   replace hs := hs.pk .n
   replace hs := bk0 hs ct0 rfl
   refine aEnd ?_
   exact k_end ⟨true, I, H, ft, hs⟩
  rw [if_neg c77] at H
  refine aP 19 (.bool false) rfl (pr_bool (by kernel_rfl) (decide_eq_false c77)) hs.keep ?_
  refine aRun [20] 0 hs.keep ?_
  replace hs := hs.pk .n
  replace hs := bk0 hs ct0 rfl
  refine aEnd ?_
  exact k_end ⟨false, I, H, ft, hs⟩
 clear H
 rintro ρ h ⟨x78, I, H, hf, hs⟩
 refine k_fits _ hf ?_ rfl
 subst e107
 try dsimp only at H
 cases x78
 ·rw [cond_false] at H
  obtain ⟨hk, bk⟩ := (((hs.f d6).f d6).f d2).call tk3 .n
  refine st 5 [false] (k_call H (fun _ m => line_Line_drain.calls m hk) ?_)
  rintro t96 _ h H ⟨I, _, ⟨a97, p98, n99, v101, a103, p104, n105, rfl, rfl⟩, hk⟩
  replace hs := bk hk ct5 rfl
  cases hs.nO d0
  cases hs.nO d4
  obtain rfl := si H
  exact st 5 [] (k_retQ ⟨_, by kernel_rfl, I, _, ⟨a97, p98, t96.1.length, (v101), a47, p48, t46.queue'.length, a103, p104, t96.2.2.coming'.length, rfl, rfl⟩, hs.pk (.c d0 (.c d0 (.c d0 (.c d2 (.c d0 (.c d0 .n))))))⟩)
 rw [cond_true] at H
 refine st 4 [true] (k_op (lB (hs.bl d4) 3 rfl ?_))
 obtain ⟨hk, bk⟩ := hs.call tk0 (.c (qB d7) .n)
 refine k_call H (fun _ m => slices_Clone_bytes.calls m hk) ?_
 rintro t80 _ h H ⟨I, _, ⟨a81, p82, n83, rfl, rfl⟩, hk⟩
 replace hs := bk hk ct1 rfl
 cases hs.nO d0
 refine st 1 [] (k_op (sB (v := .slice a81 t80.length p82) (hs.f d5) cw3 ?_))
 intro h hs
 refine st 1 [] ?_
 obtain ⟨hs0, bk0⟩ := hs.call tk0 (.c (qL d2) (.c (qL d0) .n))
 have hs := hs0
 refine k_regD hs0 7 ?_
 refine aRun [0, 1, 2] 5 hs.keep ?_
 refine aL 3 rfl hs.keep (ll hs0 d0 (n := 3) rfl) (nmL hs0 d0) ?_
 refine aRun [4] 3 hs.keep ?_
 refine aL 5 rfl hs.keep (ll hs0 d1 (n := 1) rfl) (nmL hs0 d1) ?_
 refine aG 6 rfl hs.keep (lls hs0 d1 0 4 rfl) (nmL hs0 d1) ?_
 replace hs := hs.pk .n
 replace hs := bk0 hs ct0 rfl
 obtain ⟨I, hs⟩ := (hs.f d1).fO
 replace hs := (hs.f d6)
 refine aOL 7 rfl (mU (kt := 3) (et := 108) hs x1.Num [iv x1.Ack, iv x1.Num, .bool x1.Last, .slice a81 t80.length p82] (⟨x1.Ack, x1.Num, x1.Last, t80⟩ : api_Pack) ⟨_, _, _, rfl, (hs.g d1)⟩ ?_)
 intro h hs
 refine aEnd ?_
 obtain ⟨hk, bk⟩ := (((hs.f d7).f d1).f d4).call tk3 .n
 refine st 3 [] (k_call H (fun _ m => line_Line_drain.calls m hk) ?_)
 rintro t85 _ h H ⟨I, _, ⟨a86, p87, n88, v90, a92, p93, n94, rfl, rfl⟩, hk⟩
 replace hs := bk hk ct5 rfl
 cases hs.nO d0
 cases hs.nO d4
 obtain rfl := si H
 exact st 5 [] (k_retQ ⟨_, by kernel_rfl, I, _, ⟨a86, p87, t85.1.length, (v90), a47, p48, t46.queue'.length, a92, p93, t85.2.2.coming'.length, rfl, rfl⟩, hs.pk (.c d0 (.c d0 (.c d0 (.c d4 (.c d0 (.c d0 .n))))))⟩)
def side_side_take.m (K : Nat) (x0 : side_side) (x1 : ByteArray) (x2 : (List Int)) : Option ((List (List Int)) × GoErr × side_side) :=
  ((roam_Gate_Come.m K x0.gate' x1 x2).bind fun t42 => (if t42.2.2 = GoErr.nil then ((piece_Read.m t42.2.1).bind fun t57 => (if t57.2 = GoErr.nil then ((line_Line_Hear.m K x0.line' t57.1).bind fun t68 => (some (t68.1, t68.2.1, (⟨x0.key', t42.1, t68.2.2, x0.dir', x0.seq'⟩ : side_side)))) else (some ([], t57.2, (⟨x0.key', t42.1, x0.line', x0.dir', x0.seq'⟩ : side_side))))) else (some ([], t42.2.2, x0))))
theorem side_side_take.calls {B I : Gh} {h : Heap} {K : Nat} {x0 : side_side} {x1 : ByteArray} {x2 : (List Int)} {b0 : Nat} {v21 : Value} {a22 : Option Addr} {p23 : Nat} {n24 : Nat} {b26 : Nat} {a27 : Option Addr} {p28 : Nat} {n29 : Nat} {b31 : Nat} {a32 : Option Addr} {p33 : Nat} {n34 : Nat} {tl36 : List Value} {TT37 : TypeId} {a38 : Option Addr} {p39 : Nat} {n40 : Nat} {r : ((List (List Int)) × GoErr × side_side)} (H : side_side_take.m K x0 x1 x2 = some r)  :
    Fc Tryz.prog 92 #[pv b0, .string x1, .slice a38 n40 p39] [rB b0 (v21 :: .slice a22 n24 p23 :: iv x0.gate'.Dir :: iv x0.gate'.Seen.Top :: .int .u64 x0.gate'.Seen.Bits :: .string x0.gate'.Peer.Addr :: iv x0.gate'.Peer.Seq :: pv b26 :: iv x0.dir' :: iv x0.seq' :: tl36) TT37, rB b26 [.slice a27 n29 p28, iv x0.line'.given', iv x0.line'.await', .map (some b31), .slice a32 n34 p33, iv x0.line'.wait', iv x0.line'.left', .bool x0.line'.owes'] 239, rO t_api_Pack .i a27 p28 n29 x0.line'.queue', rM t_api_Pack b31 x0.line'.kept', rO (tInt .u8) .i a32 p33 n34 x0.line'.coming', rR (tInt .u8) .i a22 p23 n24 x0.gate'.Key, rR (tInt .u8) .b a38 p39 n40 x2] B I h (fun v L => ∃ a83 p84 n85 v87 a89 p90 n91 a93 p94 n95 a97 p98 n99, v = .tuple #[.slice a83 n85 p84, v87] ∧ L = [rO (tSl (tInt .u8)) .i a83 p84 n85 r.1, rE .i v87 r.2.1, rB b0 (v21 :: .slice a89 n91 p90 :: iv r.2.2.gate'.Dir :: iv r.2.2.gate'.Seen.Top :: .int .u64 r.2.2.gate'.Seen.Bits :: .string r.2.2.gate'.Peer.Addr :: iv r.2.2.gate'.Peer.Seq :: pv b26 :: iv r.2.2.dir' :: iv r.2.2.seq' :: tl36) TT37, rR (tInt .u8) .i a89 p90 n91 r.2.2.gate'.Key, rB b26 [.slice a93 n95 p94, iv r.2.2.line'.given', iv r.2.2.line'.await', .map (some b31), .slice a97 n99 p98, iv r.2.2.line'.wait', iv r.2.2.line'.left', .bool r.2.2.line'.owes'] 239, rO t_api_Pack .i a93 p94 n95 r.2.2.line'.queue', rM t_api_Pack b31 r.2.2.line'.kept', rO (tInt .u8) .i a97 p98 n99 r.2.2.line'.coming']) := by
 refine fc_of fun E hs => ?_
 unfold side_side_take.m at H
 cases hs.nO d2
 cases hs.nO d4
 cases hs.nR d5
 cases hs.nR d6
 refine fn_of (rs := [.tmp 6, .tmp 7]) (N := 46) Tryz.func92 rfl rfl rfl rfl ?_
 refine st 10 [] (k_op (lN (hs.bl d0) 1 6 ?_))
 obtain ⟨hk, bk⟩ := hs.call tk0 (.c (qK d5) (.c (qB d6) .n))
 refine st 2 [] (k_call H (fun _ m => roam_Gate_Come.calls m hk) ?_)
 rintro t42 _ h H ⟨I, _, ⟨a43, p44, n45, a47, p48, n49, v51, rfl, rfl⟩, hk⟩
 replace hs := bk hk ct3 rfl
 cases hs.nR d0
 cases hs.nO d1
 refine st 4 [] (k_op (nA hs [.slice none 0 0, iv 0, iv 0, .int .u64 0, .string (⟨#[]⟩ : ByteArray), iv 0] (.agg #[.slice none 0 0, iv 0, iv 0, .int .u64 0, .string (⟨#[]⟩ : ByteArray), iv 0]) ?_))
 intro b53 h hs
 refine k_op (sN0 hs [.slice a43 t42.1.Key.length p44, iv t42.1.Dir, iv t42.1.Seen.Top, .int .u64 t42.1.Seen.Bits, .string t42.1.Peer.Addr, iv t42.1.Peer.Seq] (ones_of rfl) ?_)
 intro h hs
 rcases (hs.er d3).cases with ⟨c54, rfl⟩ | ⟨c54, t55, u56, rfl⟩
 rotate_left
 ·rw [if_neg c54] at H
  obtain rfl := si H
  exact st 16 [true] (k_retQ ⟨_, by kernel_rfl, I, _, ⟨none, 0, 0, ((.iface t55 u56)), a22, p23, x0.gate'.Key.length, a27, p28, x0.line'.queue'.length, a32, p33, x0.line'.coming'.length, rfl, rfl⟩, hs.pk (.f imON (.c d3 (.c d3 (.c d7 (.c d3 (.c d3 (.c d3 (.c d3 .n))))))))⟩)
 rw [if_pos c54] at H
 refine st 14 [false] (k_op (lN (hs.bl d0) 0 6 ?_))
 refine st 2 [] (k_op (sN (hs.f d4) 1 [.slice a43 t42.1.Key.length p44, iv t42.1.Dir, iv t42.1.Seen.Top, .int .u64 t42.1.Seen.Bits, .string t42.1.Peer.Addr, iv t42.1.Peer.Seq] (v21 :: .slice a43 t42.1.Key.length p44 :: iv t42.1.Dir :: iv t42.1.Seen.Top :: .int .u64 t42.1.Seen.Bits :: .string t42.1.Peer.Addr :: iv t42.1.Peer.Seq :: pv b26 :: iv x0.dir' :: iv x0.seq' :: tl36) (ones_of rfl) ?_))
 intro h hs
 obtain ⟨hk, bk⟩ := hs.call tk0 (.c (qO d3) .n)
 refine st 4 [] (k_call H (fun _ m => piece_Read.calls m hk) ?_)
 rintro t57 _ h H ⟨I, _, ⟨a58, p59, n60, v62, rfl, rfl⟩, hk⟩
 replace hs := bk hk ct2 rfl
 cases hs.nO d0
 refine st 3 [] (k_op (nA hs [iv 0, iv 0, .bool false, .slice none 0 0] (.agg #[iv 0, iv 0, .bool false, .slice none 0 0]) ?_))
 intro b64 h hs
 refine k_op (sN0 hs [iv t57.1.Ack, iv t57.1.Num, .bool t57.1.Last, .slice a58 t57.1.Data.length p59] (ones_of rfl) ?_)
 intro h hs
 rcases (hs.er d2).cases with ⟨c65, rfl⟩ | ⟨c65, t66, u67, rfl⟩
 rotate_left
 ·rw [if_neg c65] at H
  obtain rfl := si H
  exact st 15 [true] (k_retQ ⟨_, by kernel_rfl, I, _, ⟨none, 0, 0, ((.iface t66 u67)), a43, p44, t42.1.Key.length, a27, p28, x0.line'.queue'.length, a32, p33, x0.line'.coming'.length, rfl, rfl⟩, hs.pk (.f imON (.c d2 (.c d2 (.c d3 (.c d5 (.c d5 (.c d5 (.c d5 .n))))))))⟩)
 rw [if_pos c65] at H
 refine st 11 [false] ?_
 obtain ⟨hs0, bk0⟩ := ((((hs.f d11).f d11).f d11).f d11).call tk4 (.c (qL d3) (.c (qL d0) (.c (qO d1) .n)))
 have hs := hs0
 refine k_regD hs0 10 ?_
 refine aRun [0, 1, 2] 7 hs.keep ?_
 refine aL 3 rfl hs.keep (ll hs0 d4 (n := 7) rfl) (nmL hs0 d4) ?_
 refine aG 4 rfl hs.keep (lls hs0 d5 0 4 rfl) (nmL hs0 d5) ?_
 obtain ⟨hk, bk⟩ := ((((hs.f d3).f d3).f d3).f d3).call tk4 (.c (qB d2) .n)
 refine aO1 5 rfl (o_call H (fun _ m => line_Line_Hear.calls m hk) ?_)
 rintro t68 _ h H ⟨I, _, ⟨a69, p70, n71, v73, a75, p76, n77, a79, p80, n81, rfl, rfl⟩, hk⟩
 replace hs := bk hk ct6 rfl
 cases hs.nO d0
 cases hs.nO d3
 cases hs.nO d5
 refine ⟨hs.keep, ?_⟩
 refine aRun [6, 7, 8, 9] 0 hs.keep ?_
 replace hs := hs.pk (.c d0 (.c d0 (.c d0 (.c d0 (.c d0 (.c d0 .n))))))
 replace hs := bk0 hs ct6 rfl
 refine aEnd ?_
 obtain rfl := si H
 exact k_retQ ⟨_, by kernel_rfl, I, _, ⟨a69, p70, t68.1.length, (v73), a43, p44, t42.1.Key.length, a75, p76, t68.2.2.queue'.length, a79, p80, t68.2.2.coming'.length, rfl, rfl⟩, hs.pk (.c d0 (.c d0 (.c d7 (.c d8 (.c d0 (.c d0 (.c d0 (.c d0 .n))))))))⟩
def side_Host_Hear.m (K : Nat) (x0 : side_Host) (x1 : ByteArray) (x2 : (List Int)) : Option (GoErr × side_Host) :=
  ((side_side_take.m K x0.side' x1 x2).bind fun t44 => ((app x0.got' t44.1).bind fun l63 => (some (t44.2.1, (⟨(⟨x0.side'.key', t44.2.2.gate', t44.2.2.line', t44.2.2.dir', t44.2.2.seq'⟩ : side_side), l63⟩ : side_Host)))))
theorem side_Host_Hear.calls {B I : Gh} {h : Heap} {K : Nat} {x0 : side_Host} {x1 : ByteArray} {x2 : (List Int)} {b0 : Nat} {v21 : Value} {a22 : Option Addr} {p23 : Nat} {n24 : Nat} {b26 : Nat} {a27 : Option Addr} {p28 : Nat} {n29 : Nat} {b31 : Nat} {a32 : Option Addr} {p33 : Nat} {n34 : Nat} {a36 : Option Addr} {p37 : Nat} {n38 : Nat} {a40 : Option Addr} {p41 : Nat} {n42 : Nat} {r : (GoErr × side_Host)} (H : side_Host_Hear.m K x0 x1 x2 = some r)  :
    Fc Tryz.prog 37 #[pv b0, .string x1, .slice a40 n42 p41] [rB b0 [v21, .slice a22 n24 p23, iv x0.side'.gate'.Dir, iv x0.side'.gate'.Seen.Top, .int .u64 x0.side'.gate'.Seen.Bits, .string x0.side'.gate'.Peer.Addr, iv x0.side'.gate'.Peer.Seq, pv b26, iv x0.side'.dir', iv x0.side'.seq', .slice a36 n38 p37] 118, rB b26 [.slice a27 n29 p28, iv x0.side'.line'.given', iv x0.side'.line'.await', .map (some b31), .slice a32 n34 p33, iv x0.side'.line'.wait', iv x0.side'.line'.left', .bool x0.side'.line'.owes'] 239, rO t_api_Pack .i a27 p28 n29 x0.side'.line'.queue', rM t_api_Pack b31 x0.side'.line'.kept', rO (tInt .u8) .i a32 p33 n34 x0.side'.line'.coming', rO (tSl (tInt .u8)) .i a36 p37 n38 x0.got', rR (tInt .u8) .i a22 p23 n24 x0.side'.gate'.Key, rR (tInt .u8) .b a40 p41 n42 x2] B I h (fun v L => ∃ v68 a70 p71 n72 a74 p75 n76 a78 p79 n80 a82 p83 n84, v = v68 ∧ L = [rE .i v68 r.1, rB b0 [v21, .slice a70 n72 p71, iv r.2.side'.gate'.Dir, iv r.2.side'.gate'.Seen.Top, .int .u64 r.2.side'.gate'.Seen.Bits, .string r.2.side'.gate'.Peer.Addr, iv r.2.side'.gate'.Peer.Seq, pv b26, iv r.2.side'.dir', iv r.2.side'.seq', .slice a82 n84 p83] 118, rR (tInt .u8) .i a70 p71 n72 r.2.side'.gate'.Key, rB b26 [.slice a74 n76 p75, iv r.2.side'.line'.given', iv r.2.side'.line'.await', .map (some b31), .slice a78 n80 p79, iv r.2.side'.line'.wait', iv r.2.side'.line'.left', .bool r.2.side'.line'.owes'] 239, rO t_api_Pack .i a74 p75 n76 r.2.side'.line'.queue', rM t_api_Pack b31 r.2.side'.line'.kept', rO (tInt .u8) .i a78 p79 n80 r.2.side'.line'.coming', rO (tSl (tInt .u8)) .i a82 p83 n84 r.2.got']) := by
 refine fc_of fun E hs => ?_
 unfold side_Host_Hear.m at H
 cases hs.nO d2
 cases hs.nO d4
 cases hs.nO d5
 cases hs.nR d6
 cases hs.nR d7
 refine fn_of (rs := [.tmp 6]) (N := 28) Tryz.func37 rfl rfl rfl rfl ?_
 obtain ⟨hk, bk⟩ := (((((hs.f d4).f d4).f d4).f d4).f d4).call tk5 (.c (qK d1) (.c (qB d2) .n))
 refine st 11 [] (k_call H (fun _ m => side_side_take.calls m hk) ?_)
 rintro t44 _ h H ⟨I, _, ⟨a45, p46, n47, v49, a51, p52, n53, a55, p56, n57, a59, p60, n61, rfl, rfl⟩, hk⟩
 replace hs := bk hk (.s (.s ct6)) rfl
 cases hs.nO d0
 cases hs.nR d3
 cases hs.nO d5
 cases hs.nO d7
 refine st 12 [] (k_op (lB (hs.bl d2) 10 rfl ?_))
 replace hs := (hs.f d8)
 obtain ⟨l63, m64, H⟩ := bind_some H
 refine st 1 [] (k_op (aO (e := 31) (bytes := 24) hs (hs.sO d1) m64 ?_))
 intro a65 p66 h hs
 refine st 2 [] (k_op (sB (v := .slice a65 l63.length p66) (hs.f d3) cw10 ?_))
 intro h hs
 obtain rfl := si H
 exact st 6 [] (k_retQ ⟨_, by kernel_rfl, I, _, ⟨(v49), a51, p52, t44.2.2.gate'.Key.length, a55, p56, t44.2.2.line'.queue'.length, a59, p60, t44.2.2.line'.coming'.length, a65, p66, l63.length, rfl, rfl⟩, hs.pk (.c d3 (.c d0 (.c d2 (.c d2 (.c d2 (.c d2 (.c d2 (.c d0 .n))))))))⟩)
end Go.Proofs.YtjkbhpokboolpaaGreatDoor.Sx
