import Derived.Test.YtjkbhpokboolpaaGreatDoorProg
import Derived.Test.YtjkbhpokboolpaaGreatDoorV4
import Derived.Test.YtjkbhpokboolpaaGreatDoorV5
import Derived.Test.YtjkbhpokboolpaaGreatDoorVF
import Derived.Test.YtjkbhpokboolpaaGreatDoorV6
import Derived.Test.YtjkbhpokboolpaaGreatDoorV7
import Derived.Test.YtjkbhpokboolpaaGreatDoorV9
import Derived.Test.YtjkbhpokboolpaaGreatDoorVD
import Derived.Test.YtjkbhpokboolpaaGreatDoorVC
import Derived.Test.YtjkbhpokboolpaaGreatDoorG0
import Derived.Test.YtjkbhpokboolpaaGreatDoorG1
import Derived.Test.YtjkbhpokboolpaaGreatDoorG2
namespace Go.Proofs.YtjkbhpokboolpaaGreatDoor.Sx
open Go
set_option maxRecDepth 100000
set_option maxHeartbeats 4000000
def order_Put.m (K : Nat) (x0 : api_Order) (x1 : Int) : Option ((List Int) × GoErr) :=
  ((order_Right.m K x0 x1).bind fun t26 => (if t26 = GoErr.nil then (if x0.Kind = 1 then ((slices_Clone_bytes.m x0.Text).bind fun t33 => (some (t33, GoErr.nil))) else ((order_byteOf.m x0.Kind).bind fun t38 => (letJ (α := (List Int) → Option ((List Int) × GoErr)) (fun (x75 : List Int) => (if x0.Kind = 6 then ((app x75 [x0.Char]).bind fun l84 => (some (l84, GoErr.nil))) else (some (x75, GoErr.nil)))) fun (j80 : (List Int) → Option ((List Int) × GoErr)) => (letJ (α := Bool → Option ((List Int) × GoErr)) (fun (x42 : Bool) => (bif x42 then ((attr_Put.m K x0.Attr).bind fun t44 => ((app [t38] [t44.1]).bind fun l49 => (some (l49, t44.2)))) else (letJ (α := Bool → Option ((List Int) × GoErr)) (fun (x57 : Bool) => (bif x57 then ((addr_Put.m K x0.Addr x1).bind fun t59 => (if t59.2 = GoErr.nil then ((app [t38] t59.1).bind fun l68 => (j80 l68)) else (some ([], t59.2)))) else (j80 [t38]))) fun (j58 : Bool → Option ((List Int) × GoErr)) => (if x0.Kind = 3 then (j58 true) else (if x0.Kind = 6 then (j58 true) else (if x0.Kind = 7 then (j58 true) else (j58 false))))))) fun (j43 : Bool → Option ((List Int) × GoErr)) => (if x0.Kind = 2 then (j43 true) else (j43 false)))))) else (some ([], t26))))
theorem order_Put.calls {B I : Gh} {h : Heap} {K : Nat} {x0 : api_Order} {x1 : Int} {a21 : Option Addr} {p22 : Nat} {n23 : Nat} {r : ((List Int) × GoErr)} (H : order_Put.m K x0 x1 = some r)  :
    Fc Tryz.prog 107 #[.agg #[iv x0.Kind, .slice a21 n23 p22, .bool x0.Attr.Protected, .bool x0.Attr.Numeric, iv x0.Attr.Show, .bool x0.Attr.Modified, iv x0.Addr, .int .u8 x0.Char], iv x1] [rR (tInt .u8) .b a21 p22 n23 x0.Text] B I h (fun v L => ∃ a90 p91 n92 v94, v = .tuple #[.slice a90 n92 p91, v94] ∧ L = [rO (tInt .u8) .i a90 p91 n92 r.1, rE .i v94 r.2]) := by
 refine fc_of fun E hs => ?_
 unfold order_Put.m at H
 cases hs.nR d0
 refine fn_of (rs := [.tmp 4, .tmp 5]) (N := 69) Tryz.func107 rfl rfl rfl rfl ?_
 refine st 2 [] (k_op (nB hs [iv x0.Kind, .slice a21 x0.Text.length p22, .bool x0.Attr.Protected, .bool x0.Attr.Numeric, iv x0.Attr.Show, .bool x0.Attr.Modified, iv x0.Addr, .int .u8 x0.Char] ?_))
 intro b25 h hs
 refine st 6 [] (k_op (lN (hs.bl d0) 0 8 ?_))
 obtain ⟨hk, bk⟩ := hs.call tk0 (.c (qB d1) .n)
 refine st 1 [] (k_call H (fun _ m => order_Right.calls m hk) ?_)
 rintro t26 v27 h H ⟨I, _, ⟨_, rfl, rfl⟩, hk⟩
 replace hs := bk hk ct1 rfl
 rcases (hs.er d0).cases with ⟨c29, rfl⟩ | ⟨c29, t30, u31, rfl⟩
 rotate_left
 ·rw [if_neg c29] at H
  obtain rfl := si H
  exact st 14 [true] (k_retQ ⟨_, by kernel_rfl, I, _, ⟨none, 0, 0, ((.iface t30 u31)), rfl, rfl⟩, hs.pk (.f imON (.c d0 .n))⟩)
 rw [if_pos c29] at H
 refine st 13 [false] (k_op (lB (hs.bl d1) 0 rfl ?_))
 refine k_ite H (fun c32 H => ?_) (fun c32 H => ?_)
 ·refine st 5 [true] (k_op (lB (hs.bl d1) 1 rfl ?_))
  obtain ⟨hk, bk⟩ := hs.call tk0 (.c (qB d2) .n)
  refine k_call H (fun _ m => slices_Clone_bytes.calls m hk) ?_
  rintro t33 _ h H ⟨I, _, ⟨a34, p35, n36, rfl, rfl⟩, hk⟩
  replace hs := bk hk ct1 rfl
  cases hs.nO d0
  obtain rfl := si H
  exact st 3 [] (k_retQ ⟨_, by kernel_rfl, I, _, ⟨a34, p35, t33.length, (.nilIface), rfl, rfl⟩, hs.pk (.c d0 (.f imEN .n))⟩)
 refine st 6 [false] (k_op (lB (hs.bl d1) 0 rfl ?_))
 refine k_call H (fun _ m => order_byteOf.calls m) ?_
 rintro t38 _ _ H ⟨rfl, rfl⟩
 refine k_op (nS (e := 5) hs .i (tInt .u8) ([t38] : List Int) [.int .u8 t38] 1 (.int .u8 0) (Reps.int (I := (Cl.G .i E.B I)) (k := .u8) (l := [t38])) ?_)
 intro b39 h hs
 refine st 3 [] ?_
 obtain ⟨j80, e89, H⟩ := letJ_some H
 refine k_joinT (fun T ρ h => ∃ (x75 : List Int), ∃ a76 p77 n78 I, j80 x75 = some r ∧ Fits [(2, pv b25), (7, .slice a76 n78 p77)] ρ ∧ St E (rO (tInt .u8) .i a76 p77 n78 x75 :: T) I h) hs tl1 ?_ ?_
 rotate_left
 ·clear H
  rintro ρ h ⟨x75, a76, p77, n78, I, H, hf, hs⟩
  refine k_fits _ hf ?_ rfl
  subst e89
  try dsimp only at H
  cases hs.nO d0
  refine st 4 [] (k_op (lB (hs.bl d2) 0 rfl ?_))
  refine k_ite H (fun c81 H => ?_) (fun c81 H => ?_)
  rotate_left
  ·obtain rfl := si H
   exact st 9 [false] (k_retQ ⟨_, by kernel_rfl, I, _, ⟨a76, p77, x75.length, (.nilIface), rfl, rfl⟩, hs.pk (.c d0 (.f imEN .n))⟩)
  refine st 5 [true] (k_op (lB (hs.bl d2) 7 rfl ?_))
  refine k_op (nS (e := 5) hs .i (tInt .u8) ([x0.Char] : List Int) [.int .u8 x0.Char] 1 (.int .u8 0) (Reps.int (I := (Cl.G .i E.B I)) (k := .u8) (l := [x0.Char])) ?_)
  intro b82 h hs
  replace hs := (hs.f d1)
  obtain ⟨l84, m85, H⟩ := bind_some H
  refine k_op (aO (e := 5) (bytes := 1) hs (hs.sO d1) m85 ?_)
  intro a86 p87 h hs
  obtain rfl := si H
  exact st 8 [] (k_retQ ⟨_, by kernel_rfl, I, _, ⟨a86, p87, l84.length, (.nilIface), rfl, rfl⟩, hs.pk (.c d0 (.f imEN .n))⟩)
 refine st 3 [] (k_op (lB (hs.bl d2) 0 rfl ?_))
 refine st 3 [] ?_
 obtain ⟨j43, e74, H⟩ := letJ_some H
 refine k_joinT (fun T ρ h => ∃ (x42 : Bool), ∃ I, j43 x42 = some r ∧ Fits [(1, iv x1), (2, pv b25), (7, .slice (sa b39) 1 1), (29, iv x0.Kind), (30, .bool x42)] ρ ∧ St E T I h) hs tl0 ?_ ?_
 ·refine st 1 [] (k_ite H (fun c41 H => ?_) (fun c41 H => ?_))
  ·exact st 2 [] (k_end ⟨true, I, H, ft, hs⟩)
  exact st 2 [] (k_end ⟨false, I, H, ft, hs⟩)
 clear H
 rintro ρ h ⟨x42, I, H, hf, hs⟩
 refine k_fits _ hf ?_ rfl
 subst e74
 try dsimp only at H
 cases x42
 rotate_left
 ·rw [cond_true] at H
  refine st 4 [true] (k_op (lN (hs.bl d2) 2 4 ?_))
  obtain ⟨hk, bk⟩ := hs.call tk0 .n
  refine k_call H (fun _ m => attr_Put.calls m hk) ?_
  rintro t44 _ h H ⟨I, _, ⟨v45, rfl, rfl⟩, hk⟩
  replace hs := bk hk ct1 rfl
  refine st 10 [] (k_op (nS (e := 5) hs .i (tInt .u8) ([t44.1] : List Int) [.int .u8 t44.1] 1 (.int .u8 0) (Reps.int (I := (Cl.G .i E.B I)) (k := .u8) (l := [t44.1])) ?_))
  intro b47 h hs
  replace hs := (hs.f d2)
  obtain ⟨l49, m50, H⟩ := bind_some H
  refine k_op (aO (e := 5) (bytes := 1) hs (hs.sO d1) m50 ?_)
  intro a51 p52 h hs
  obtain rfl := si H
  exact st 4 [] (k_retQ (krJ ⟨_, by kernel_rfl, I, _, ⟨a51, p52, l49.length, (v45), rfl, rfl⟩, hs.pk (.c d0 (.c d1 .n))⟩))
 rw [cond_false] at H
 refine st 2 [false] ?_
 obtain ⟨j58, e73, H⟩ := letJ_some H
 refine k_joinT (fun T ρ h => ∃ (x57 : Bool), ∃ I, j58 x57 = some r ∧ Fits [(1, iv x1), (2, pv b25), (7, .slice (sa b39) 1 1), (43, .bool x57)] ρ ∧ St E T I h) hs tl0 ?_ ?_
 ·refine st 2 [] (k_ite H (fun c54 H => ?_) (fun c54 H => ?_))
  ·exact st 4 [true] (k_end ⟨true, I, H, ft, hs⟩)
  refine st 5 [false] (k_ite H (fun c55 H => ?_) (fun c55 H => ?_))
  ·exact st 4 [true] (k_end ⟨true, I, H, ft, hs⟩)
  refine st 4 [false] (k_ite H (fun c56 H => ?_) (fun c56 H => ?_))
  ·exact st 2 [] (k_end ⟨true, I, H, ft, hs⟩)
  exact st 2 [] (k_end ⟨false, I, H, ft, hs⟩)
 clear H
 rintro ρ h ⟨x57, I, H, hf, hs⟩
 refine k_fits _ hf ?_ rfl
 subst e73
 try dsimp only at H
 cases x57
 ·rw [cond_false] at H
  exact st 3 [false] (k_end ⟨[t38], (sa b39), 1, 1, I, H, ft, hs.pk (.c d0 pk0)⟩)
 rw [cond_true] at H
 refine st 4 [true] (k_op (lB (hs.bl d2) 6 rfl ?_))
 obtain ⟨hk, bk⟩ := hs.call tk0 .n
 refine st 1 [] (k_call H (fun _ m => addr_Put.calls m hk) ?_)
 rintro t59 _ h H ⟨I, _, ⟨v61, rfl, rfl, hl60⟩, hk⟩
 replace hs := bk hk ct1 rfl
 refine st 3 [] (k_op (nA hs (List.map (Value.int .u8) (List.replicate 2 (0 : Int))) (.agg (List.map (Value.int .u8) (List.replicate 2 (0 : Int))).toArray) ?_))
 intro b63 h hs
 refine k_op (sAN (l2 := t59.1) hs (List.length_replicate (n := 2) (a := (0 : Int))) hl60 ?_)
 intro h hs
 rcases (hs.er d1).cases with ⟨c64, rfl⟩ | ⟨c64, t65, u66, rfl⟩
 ·rw [if_pos c64] at H
  obtain ⟨I, hs⟩ := hs.fA hl60
  replace hs := (hs.f d2)
  obtain ⟨l68, m69, H⟩ := bind_some H
  refine st 13 [false] (k_op (aO (e := 5) (bytes := 1) hs (hs.sR d1) m69 ?_))
  intro a70 p71 h hs
  exact st 3 [] (k_end ⟨l68, a70, p71, l68.length, I, H, ft, hs.pk (.c d0 pk2)⟩)
 rw [if_neg c64] at H
 obtain rfl := si H
 exact st 15 [true] (k_retQ (krJ ⟨_, by kernel_rfl, I, _, ⟨none, 0, 0, ((.iface t65 u66)), rfl, rfl⟩, hs.pk (.f imON (.c d1 .n))⟩))
def stream_spot.m (x0 : Int) (x1 : GoErr) : Option GoErr :=
  (some (GoErr.spot x0 x1))
theorem stream_spot.calls {B I : Gh} {h : Heap} {x0 : Int} {x1 : GoErr} {v21 : Value} {r : GoErr} (H : stream_spot.m x0 x1 = some r)  :
    Fc Tryz.prog 54 #[iv x0, v21] [rE .i v21 x1] B I h (fun v L => ∃ v29, v = v29 ∧ L = [rE .i v29 r]) := by
 refine fc_of fun E hs => ?_
 unfold stream_spot.m at H
 refine fn_of (rs := [.tmp 4]) (N := 10) Tryz.func54 rfl rfl rfl rfl ?_
 rcases (hs.er d0).cases with ⟨c23, rfl⟩ | ⟨c23, t24, u25, rfl⟩
 ·refine st 9 [] (k_op (nB hs [iv x0, .nilIface] ?_))
  intro b26 h hs
  have q27 := (hs.er d1)
  obtain ⟨I, hs⟩ := hs.fS q27
  obtain rfl := si H
  exact st 3 [] (k_retQ ⟨_, by kernel_rfl, I, _, ⟨((.iface 202 (pv b26))), rfl, rfl⟩, hs.pk (.c d0 .n)⟩)
 refine st 9 [] (k_op (nB hs [iv x0, (.iface t24 u25)] ?_))
 intro b26 h hs
 have q27 := (hs.er d1)
 obtain ⟨I, hs⟩ := hs.fS q27
 obtain rfl := si H
 exact st 3 [] (k_retQ ⟨_, by kernel_rfl, I, _, ⟨((.iface 202 (pv b26))), rfl, rfl⟩, hs.pk (.c d0 .n)⟩)
def stream_orders.l1.m (K : Nat) (x0 : (List api_Order)) (x1 : Int) : Nat → (List Int) → Int → Option (((List Int) × GoErr) ⊕ ((List Int)))
  | 0, _, _ => none
  | k + 1, x25, x30 => (letJ (α := Bool → Option (((List Int) × GoErr) ⊕ ((List Int)))) (fun (x40 : Bool) => (bif x40 then (if 0 ≤ x30 then (if x30 < (x0.length : Int) then ((order_Put.m K (⟨(at_ x0 x30).Kind, (at_ x0 x30).Text, ((at_ x0 x30).Attr), (at_ x0 x30).Addr, (at_ x0 x30).Char⟩ : api_Order) x1).bind fun t53 => (letJ (α := GoErr → Option (((List Int) × GoErr) ⊕ ((List Int)))) (fun (x76 : GoErr) => (if x76 = GoErr.nil then ((app x25 t53.1).bind fun l83 => (stream_orders.l1.m K x0 x1 k l83 (w64 (x30 + 1)))) else ((stream_spot.m x30 x76).bind fun t88 => (some (Sum.inl ([], t88)))))) fun (j79 : GoErr → Option (((List Int) × GoErr) ⊕ ((List Int)))) => (if t53.2 = GoErr.nil then (if x30 > 0 then (if (at_ x0 x30).Kind = 1 then (if 0 ≤ (w64 (x30 - 1)) then (if (w64 (x30 - 1)) < (x0.length : Int) then (if (at_ x0 (w64 (x30 - 1))).Kind = 1 then (j79 (GoErr.no 1)) else (j79 t53.2)) else none) else none) else (j79 t53.2)) else (j79 t53.2)) else (j79 t53.2)))) else none) else none) else (some (Sum.inr x25)))) fun (j41 : Bool → Option (((List Int) × GoErr) ⊕ ((List Int)))) => (if x30 < (x0.length : Int) then (j41 true) else (j41 false)))
def stream_orders.m (K : Nat) (x0 : (List api_Order)) (x1 : Int) : Option ((List Int) × GoErr) :=
  ((stream_orders.l1.m K x0 x1 K [] 0).bind fun s31 => match s31 with | .inl q => (some q) | .inr x32 => (some (x32, GoErr.nil)))
theorem stream_orders.calls {B I : Gh} {h : Heap} {K : Nat} {x0 : (List api_Order)} {x1 : Int} {a21 : Option Addr} {p22 : Nat} {n23 : Nat} {r : ((List Int) × GoErr)} (H : stream_orders.m K x0 x1 = some r)  :
    Fc Tryz.prog 52 #[.slice a21 n23 p22, iv x1] [rR t_api_Order .b a21 p22 n23 x0] B I h (fun v L => ∃ a93 p94 n95 v97, v = .tuple #[.slice a93 n95 p94, v97] ∧ L = [rO (tInt .u8) .i a93 p94 n95 r.1, rE .i v97 r.2]) := by
 refine fc_of fun E hs => ?_
 unfold stream_orders.m at H
 cases hs.nR d0
 refine fn_of (rs := [.tmp 4, .tmp 5]) (N := 55) Tryz.func52 rfl rfl rfl rfl ?_
 refine st 17 [] ?_
 obtain ⟨s31, m38, HR37⟩ := bind_some H
 refine k_loop 0 (fun k' ρ h => ∃ (x25 : List Int) (x30 : Int), ∃ a26 p27 n28 I, stream_orders.l1.m K x0 x1 k' x25 x30 = some s31 ∧ Fits [(0, .slice a21 x0.length p22), (1, iv x1), (6, .slice a26 n28 p27), (11, .slice a21 x0.length p22), (12, iv (x0.length : Int)), (13, iv x30)] ρ ∧ St E [rO (tInt .u8) .i a26 p27 n28 x25, rR t_api_Order .b a21 p22 x0.length x0] I h) (fun ρ h => ∃ (x32 : List Int), ∃ a33 p34 n35 I, Sum.inr x32 = s31 ∧ Fits [(6, .slice a33 n35 p34)] ρ ∧ St E [rO (tInt .u8) .i a33 p34 n35 x32, rR t_api_Order .b a21 p22 x0.length x0] I h) K ⟨[], 0, none, 0, 0, I, m38, ft, hs.pk (.f imON (.c d0 .n))⟩ ?_ rfl ?_
 rotate_left
 ·rintro ρ h ⟨x32, a33, p34, n35, I, rfl, hf, hs⟩
  have H := HR37
  try dsimp only at H
  refine k_fits _ hf ?_ rfl
  cases hs.nO d0
  obtain rfl := si H
  exact st 6 [] (k_retQ ⟨_, by kernel_rfl, I, _, ⟨a33, p34, x32.length, (.nilIface), rfl, rfl⟩, hs.pk (.c d0 (.f imEN .n))⟩)
 clear m38 H
 rintro k' ρ h ⟨x25, x30, a26, p27, n28, I, H, hf, hs⟩
 cases k' with
 | zero => cases H
 | succ k =>
  rw [stream_orders.l1.m] at H
  refine k_fits _ hf ?_ rfl
  cases hs.nO d0
  refine st 1 [] ?_
  obtain ⟨j41, e92, H⟩ := letJ_some H
  refine k_joinT (fun T ρ h => ∃ (x40 : Bool), ∃ I, j41 x40 = some s31 ∧ Fits [(0, .slice a21 x0.length p22), (1, iv x1), (6, .slice a26 x25.length p27), (11, .slice a21 x0.length p22), (12, iv (x0.length : Int)), (13, iv x30), (14, .bool x40)] ρ ∧ St E T I h) hs tl0 ?_ ?_
  ·refine st 1 [] (k_ite H (fun c39 H => ?_) (fun c39 H => ?_))
   ·exact st 1 [] (k_end ⟨true, I, H, ft, hs⟩)
   exact st 1 [] (k_end ⟨false, I, H, ft, hs⟩)
  clear H
  rintro ρ h ⟨x40, I, H, hf, hs⟩
  refine k_fits _ hf ?_ rfl
  subst e92
  try dsimp only at H
  cases x40
  ·rw [cond_false] at H
   refine st 2 [false] (k_out rfl ?_)
   obtain rfl := si H
   exact xE ⟨x25, a26, p27, x25.length, I, rfl, ft, hs.pk (.c d0 (.c d0 .n))⟩
  rw [cond_true] at H
  obtain ⟨c42, H⟩ := guard_pos H
  obtain ⟨c43, H⟩ := guard_pos H
  refine st 8 [true] (k_val (elemPtr a21 (x30.toNat * 8)) (pI (e := 133) (ik := .i64) (hs.sR d1) c42 c43) ?_)
  obtain ⟨y45, g44, q46⟩ := (hs.sR d1).toSl.seg c42 c43
  obtain ⟨a47, p48, n49, rfl, q51⟩ := t_api_Order.open_ q46
  obtain rfl := q51.2
  replace hs := hs.pR q51
  refine k_op (lG g44 ?_)
  refine k_op (nA hs [iv 0, .slice none 0 0, .bool false, .bool false, iv 0, .bool false, iv 0, .int .u8 0] (.agg #[iv 0, .slice none 0 0, .bool false, .bool false, iv 0, .bool false, iv 0, .int .u8 0]) ?_)
  intro b52 h hs
  refine st 1 [] (k_op (sN0 hs [iv ((at_ x0 x30).Kind), .slice a47 (((at_ x0 x30).Text).length) p48, .bool (((at_ x0 x30).Attr).Protected), .bool (((at_ x0 x30).Attr).Numeric), iv (((at_ x0 x30).Attr).Show), .bool (((at_ x0 x30).Attr).Modified), iv ((at_ x0 x30).Addr), .int .u8 ((at_ x0 x30).Char)] (ones_of rfl) ?_))
  intro h hs
  refine st 3 [] (k_op (lN (hs.bl d0) 0 8 ?_))
  obtain ⟨hk, bk⟩ := hs.call tk0 (.c (qB d1) .n)
  refine st 1 [] (k_call H (fun _ m => order_Put.calls m hk) ?_)
  rintro t53 _ h H ⟨I, _, ⟨a54, p55, n56, v58, rfl, rfl⟩, hk⟩
  replace hs := bk hk ct2 rfl
  cases hs.nO d0
  refine st 7 [] ?_
  obtain ⟨j79, e91, H⟩ := letJ_some H
  refine k_joinT (fun T ρ h => ∃ (x76 : GoErr), ∃ v77 I, j79 x76 = some s31 ∧ Fits [(0, .slice a21 x0.length p22), (1, iv x1), (6, .slice a26 x25.length p27), (7, iv x30), (9, .slice a54 t53.1.length p55), (10, v77), (11, .slice a21 x0.length p22), (12, iv (x0.length : Int)), (13, iv x30)] ρ ∧ St E (rO (tInt .u8) .i a54 p55 t53.1.length t53.1 :: rE .i v77 x76 :: T) I h) hs tl2 ?_ ?_
  rotate_left
  ·clear H
   rintro ρ h ⟨x76, v77, I, H, hf, hs⟩
   refine k_fits _ hf ?_ rfl
   subst e91
   try dsimp only at H
   rcases (hs.er d1).cases with ⟨c80, rfl⟩ | ⟨c80, t81, u82, rfl⟩
   ·rw [if_pos c80] at H
    replace hs := (hs.f d4)
    obtain ⟨l83, m84, H⟩ := bind_some H
    refine st 11 [false] (k_op (aO (e := 5) (bytes := 1) hs (hs.sO d1) m84 ?_))
    intro a85 p86 h hs
    exact st 7 [] (k_endL ⟨k, Nat.lt_succ_self _, l83, (w64 (x30 + 1)), a85, p86, l83.length, I, H, ft, hs.pk (.c d0 (.c d4 .n))⟩)
   rw [if_neg c80] at H
   obtain ⟨hk, bk⟩ := hs.call tk0 (.c (xK d1) .n)
   refine st 11 [true] (k_call H (fun _ m => stream_spot.calls m hk) ?_)
   rintro t88 v89 h H ⟨I, _, ⟨_, rfl, rfl⟩, hk⟩
   replace hs := bk hk ct1 rfl
   refine st 3 [] (k_retQ (krL ?_))
   obtain rfl := si H
   obtain rfl := Option.some.inj HR37
   exact ⟨_, by kernel_rfl, I, _, ⟨none, 0, 0, (v89), rfl, rfl⟩, hs.pk (.f imON (.c d0 .n))⟩
  rcases (hs.er d1).cases with ⟨c60, rfl⟩ | ⟨c60, t61, u62, rfl⟩
  rotate_left
  ·rw [if_neg c60] at H
   exact st 25 [false] (k_end ⟨t53.2, (.iface t61 u62), I, H, ft, hs.pk (.c d0 (.c d0 pk0))⟩)
  rw [if_pos c60] at H
  refine st 6 [] (k_ite H (fun c63 H => ?_) (fun c63 H => ?_))
  rotate_left
  ·exact st 18 [false] (k_end ⟨t53.2, .nilIface, I, H, ft, hs.pk (.c d0 (.c d0 pk0))⟩)
  refine st 3 [] (k_op (lB (hs.bl d2) 0 rfl ?_))
  refine k_ite H (fun c64 H => ?_) (fun c64 H => ?_)
  rotate_left
  ·exact st 13 [false] (k_end ⟨t53.2, .nilIface, I, H, ft, hs.pk (.c d0 (.c d0 pk0))⟩)
  obtain ⟨c65, H⟩ := guard_pos H
  obtain ⟨c66, H⟩ := guard_pos H
  refine st 5 [] (k_val (elemPtr a21 ((w64 (x30 - 1)).toNat * 8)) (pI (e := 133) (ik := .i64) (hs.sR d5) c65 c66) ?_)
  refine k_val (elemPtr a21 ((w64 (x30 - 1)).toNat * 8 + 0)) (pF (off := 0) (hs.sR d5) c65 c66) ?_
  obtain ⟨y68, g67, q69⟩ := (hs.sR d5).toSl.seg c65 c66
  obtain ⟨a70, p71, n72, rfl, q74⟩ := t_api_Order.open_ q69
  obtain rfl := q74.2
  replace hs := hs.pR q74
  refine k_op (lC (seg_cell (f := 0) g67 rfl) ?_)
  refine k_ite H (fun c75 H => ?_) (fun c75 H => ?_)
  ·exact st 7 [true] (k_end ⟨(GoErr.no 1), .iface 137 (iv 1), I, H, ft, hs.pk (.c d1 (.f imEC pk2))⟩)
  exact st 4 [false] (k_end ⟨t53.2, .nilIface, I, H, ft, hs.pk (.c d1 (.c d1 pk1))⟩)
def attr_PutWcc.m (K : Nat) (x0 : api_Wcc) : Option Int :=
  ((attr_bit.m x0.Alarm 4).bind fun t22 => ((attr_bit.m x0.Unlock 2).bind fun t23 => ((attr_bit.m x0.Reset 1).bind fun t24 => ((attr_sum.m K [t22, t23, t24]).bind fun t27 => ((six_Put.m t27).bind fun t28 => (some t28.1))))))
theorem attr_PutWcc.calls {B I : Gh} {h : Heap} {K : Nat} {x0 : api_Wcc} {r : Int} (H : attr_PutWcc.m K x0 = some r)  :
    Fc Tryz.prog 53 #[.agg #[.bool x0.Alarm, .bool x0.Unlock, .bool x0.Reset]] [] B I h (fun v L => v = .int .u8 r ∧ L = []) := by
 refine fc_of fun E hs => ?_
 unfold attr_PutWcc.m at H
 refine fn_of (rs := [.tmp 2]) (N := 21) Tryz.func53 rfl rfl rfl rfl ?_
 refine st 2 [] (k_op (nB hs [.bool x0.Alarm, .bool x0.Unlock, .bool x0.Reset] ?_))
 intro b21 h hs
 refine st 3 [] ?_
 obtain ⟨hs0, bk0⟩ := hs.call tk0 (.c (qL d0) .n)
 have hs := hs0
 refine k_regD hs0 17 ?_
 refine aRun [0] 16 hs.keep ?_
 refine aL 1 rfl hs.keep (ll hs0 d0 (n := 0) rfl) (nmL hs0 d0) ?_
 refine aRun [3] 14 hs.keep ?_
 refine aL 4 rfl hs.keep (ll hs0 d0 (n := 1) rfl) (nmL hs0 d0) ?_
 refine aRun [6] 12 hs.keep ?_
 refine aL 7 rfl hs.keep (ll hs0 d0 (n := 2) rfl) (nmL hs0 d0) ?_
 obtain ⟨hk, bk⟩ := hs.call tk0 .n
 refine aO1 2 rfl (o_call H (fun _ m => attr_bit.calls m hk) ?_)
 rintro t22 _ h H ⟨I, _, ⟨rfl, rfl⟩, hk⟩
 replace hs := bk hk ct0 rfl
 refine ⟨hs.keep, ?_⟩
 obtain ⟨hk, bk⟩ := hs.call tk0 .n
 refine aO1 5 rfl (o_call H (fun _ m => attr_bit.calls m hk) ?_)
 rintro t23 _ h H ⟨I, _, ⟨rfl, rfl⟩, hk⟩
 replace hs := bk hk ct0 rfl
 refine ⟨hs.keep, ?_⟩
 obtain ⟨hk, bk⟩ := hs.call tk0 .n
 refine aO1 8 rfl (o_call H (fun _ m => attr_bit.calls m hk) ?_)
 rintro t24 _ h H ⟨I, _, ⟨rfl, rfl⟩, hk⟩
 replace hs := bk hk ct0 rfl
 refine ⟨hs.keep, ?_⟩
 refine aO1 9 rfl (nS (e := 200) hs .i t_Anon_is_n ([t22, t23, t24] : List Anon_is_n) [.bool t22.is', iv t22.n', .bool t23.is', iv t23.n', .bool t24.is', iv t24.n'] 2 (.agg #[.bool false, iv 0]) (Reps.cons (T := t_Anon_is_n) (c := [.bool t22.is', iv t22.n']) (x := t22) rfl (Reps.cons (T := t_Anon_is_n) (c := [.bool t23.is', iv t23.n']) (x := t23) rfl (Reps.cons (T := t_Anon_is_n) (c := [.bool t24.is', iv t24.n']) (x := t24) rfl (.nil : Reps t_Anon_is_n (Cl.G .i E.B I) h [] [])))) ?_)
 intro b25 h hs
 refine ⟨hs.keep, ?_⟩
 obtain ⟨hk, bk⟩ := hs.call tk0 (.c (qO d0) .n)
 refine aO1 10 rfl (o_call H (fun _ m => attr_sum.calls m hk) ?_)
 rintro t27 _ h H ⟨I, _, ⟨rfl, rfl⟩, hk⟩
 replace hs := bk hk ct0 rfl
 refine ⟨hs.keep, ?_⟩
 obtain ⟨hk, bk⟩ := hs.call tk0 .n
 refine aO1 11 rfl (o_call H (fun _ m => six_Put.calls m hk) ?_)
 rintro t28 _ h H ⟨I, _, ⟨v29, rfl, rfl⟩, hk⟩
 replace hs := bk hk ct1 rfl
 refine ⟨hs.keep, ?_⟩
 refine aRun [12, 13, 14, 15, 16] 0 hs.keep ?_
 replace hs := hs.pk (.c d0 (.c d0 .n))
 replace hs := bk0 hs ct2 rfl
 refine aEnd ?_
 obtain rfl := si H
 exact st 5 [] (k_retQ ⟨_, by kernel_rfl, I, _, ⟨rfl, rfl⟩, hs.pk .n⟩)
def stream_Write.m (K : Nat) (x0 : api_Out) (x1 : Int) : Option ((List Int) × GoErr) :=
  ((stream_known.m x0.Cmd).bind fun t26 => bif t26 then (letJ (α := Bool → Option ((List Int) × GoErr)) (fun (x30 : Bool) => (bif x30 then (bif ((x0.Wcc.Alarm == false) && ((x0.Wcc.Unlock == false) && ((x0.Wcc.Reset == false) && true))) then (if (x0.Orders.length : Int) > 0 then (some ([], (GoErr.no 1))) else (some ([(IntKind.u8.wrap (x0.Cmd))], GoErr.nil))) else (some ([], (GoErr.no 1)))) else ((stream_orders.m K x0.Orders x1).bind fun t34 => (if t34.2 = GoErr.nil then ((attr_PutWcc.m K x0.Wcc).bind fun t44 => ((app [(IntKind.u8.wrap (x0.Cmd))] [t44]).bind fun l47 => ((app l47 t34.1).bind fun l52 => (if (l52.length : Int) > 8192 then (some ([], (GoErr.no 6))) else (some (l52, GoErr.nil)))))) else (some ([], t34.2)))))) fun (j31 : Bool → Option ((List Int) × GoErr)) => ((stream_Writes.m x0.Cmd).bind fun t29 => bif t29 then (j31 false) else (j31 true))) else (some ([], (GoErr.no 5))))
theorem stream_Write.calls {B I : Gh} {h : Heap} {K : Nat} {x0 : api_Out} {x1 : Int} {a21 : Option Addr} {p22 : Nat} {n23 : Nat} {r : ((List Int) × GoErr)} (H : stream_Write.m K x0 x1 = some r)  :
    Fc Tryz.prog 14 #[.agg #[iv x0.Cmd, .bool x0.Wcc.Alarm, .bool x0.Wcc.Unlock, .bool x0.Wcc.Reset, .slice a21 n23 p22], iv x1] [rR t_api_Order .b a21 p22 n23 x0.Orders] B I h (fun v L => ∃ a59 p60 n61 v63, v = .tuple #[.slice a59 n61 p60, v63] ∧ L = [rO (tInt .u8) .i a59 p60 n61 r.1, rE .i v63 r.2]) := by
 refine fc_of fun E hs => ?_
 unfold stream_Write.m at H
 cases hs.nR d0
 refine fn_of (rs := [.tmp 4, .tmp 5]) (N := 57) Tryz.func14 rfl rfl rfl rfl ?_
 refine st 2 [] (k_op (nB hs [iv x0.Cmd, .bool x0.Wcc.Alarm, .bool x0.Wcc.Unlock, .bool x0.Wcc.Reset, .slice a21 x0.Orders.length p22] ?_))
 intro b25 h hs
 refine st 7 [] (k_op (lB (hs.bl d0) 0 rfl ?_))
 refine k_call H (fun _ m => stream_known.calls m) ?_
 rintro t26 _ _ H ⟨rfl, rfl⟩
 cases t26
 ·rw [cond_false] at H
  obtain rfl := si H
  exact st 9 [true] (k_retQ ⟨_, by kernel_rfl, I, _, ⟨none, 0, 0, (.iface 137 (iv 5)), rfl, rfl⟩, hs.pk (.f imON (.f imEC .n))⟩)
 rw [cond_true] at H
 refine st 7 [false] (k_op (lB (hs.bl d0) 0 rfl ?_))
 refine st 1 [] (k_op (nS (e := 5) hs .i (tInt .u8) ([(IntKind.u8.wrap (x0.Cmd))] : List Int) [.int .u8 (IntKind.u8.wrap (x0.Cmd))] 1 (.int .u8 0) (Reps.int (I := (Cl.G .i E.B I)) (k := .u8) (l := [(IntKind.u8.wrap (x0.Cmd))])) ?_))
 intro b27 h hs
 refine st 4 [] ?_
 obtain ⟨j31, e58, H⟩ := letJ_some H
 refine k_joinT (fun T ρ h => ∃ (x30 : Bool), ∃ I, j31 x30 = some r ∧ Fits [(1, iv x1), (2, pv b25), (6, .slice (sa b27) 1 1), (21, .bool x30)] ρ ∧ St E T I h) hs tl0 ?_ ?_
 ·refine st 2 [] (k_op (lB (hs.bl d1) 0 rfl ?_))
  refine k_call H (fun _ m => stream_Writes.calls m) ?_
  rintro t29 _ _ H ⟨rfl, rfl⟩
  cases t29
  ·rw [cond_false] at H
   exact st 2 [] (k_end ⟨true, I, H, ft, hs⟩)
  rw [cond_true] at H
  exact st 2 [] (k_end ⟨false, I, H, ft, hs⟩)
 clear H
 rintro ρ h ⟨x30, I, H, hf, hs⟩
 refine k_fits _ hf ?_ rfl
 subst e58
 try dsimp only at H
 cases x30
 rotate_left
 ·rw [cond_true] at H
  refine st 5 [true] (k_op (lN (hs.bl d1) 1 3 ?_))
  rcases bool_or ((x0.Wcc.Alarm == false) && ((x0.Wcc.Unlock == false) && ((x0.Wcc.Reset == false) && true))) with c32 | c32
  ·replace H := bif_f c32 H
   refine st 1 [] (k_op (owp_run (.bool true) (run_bool (run_neAgg (xs := #[.bool x0.Wcc.Alarm, .bool x0.Wcc.Unlock, .bool x0.Wcc.Reset]) (ys := #[.bool false, .bool false, .bool false]) (by kernel_rfl) (by kernel_rfl) (by kernel_rfl) (eqB_run (b := ((x0.Wcc.Alarm == false) && ((x0.Wcc.Unlock == false) && ((x0.Wcc.Reset == false) && true)))) (by kernel_rfl))) (notB c32)) ?_))
   obtain rfl := si H
   exact st 14 [true] (k_retQ ⟨_, by kernel_rfl, I, _, ⟨none, 0, 0, (.iface 137 (iv 1)), rfl, rfl⟩, hs.pk (.f imON (.f imEC .n))⟩)
  replace H := bif_t c32 H
  refine st 1 [] (k_op (owp_run (.bool false) (run_bool (run_neAgg (xs := #[.bool x0.Wcc.Alarm, .bool x0.Wcc.Unlock, .bool x0.Wcc.Reset]) (ys := #[.bool false, .bool false, .bool false]) (by kernel_rfl) (by kernel_rfl) (by kernel_rfl) (eqB_run (b := ((x0.Wcc.Alarm == false) && ((x0.Wcc.Unlock == false) && ((x0.Wcc.Reset == false) && true)))) (by kernel_rfl))) (notB c32)) ?_))
  refine st 2 [] (k_op (lB (hs.bl d1) 4 rfl ?_))
  refine st 1 [] (k_ite H (fun c33 H => ?_) (fun c33 H => ?_))
  ·obtain rfl := si H
   exact st 9 [true] (k_retQ ⟨_, by kernel_rfl, I, _, ⟨none, 0, 0, (.iface 137 (iv 1)), rfl, rfl⟩, hs.pk (.f imON (.f imEC .n))⟩)
  obtain rfl := si H
  exact st 10 [false] (k_retQ ⟨_, by kernel_rfl, I, _, ⟨(sa b27), 1, 1, (.nilIface), rfl, rfl⟩, hs.pk (.c d0 (.f imEN .n))⟩)
 rw [cond_false] at H
 refine st 5 [false] (k_op (lB (hs.bl d1) 4 rfl ?_))
 obtain ⟨hk, bk⟩ := hs.call tk0 (.c (qB d2) .n)
 refine st 1 [] (k_call H (fun _ m => stream_orders.calls m hk) ?_)
 rintro t34 _ h H ⟨I, _, ⟨a35, p36, n37, v39, rfl, rfl⟩, hk⟩
 replace hs := bk hk ct2 rfl
 cases hs.nO d0
 rcases (hs.er d1).cases with ⟨c41, rfl⟩ | ⟨c41, t42, u43, rfl⟩
 rotate_left
 ·rw [if_neg c41] at H
  obtain rfl := si H
  exact st 19 [true] (k_retQ ⟨_, by kernel_rfl, I, _, ⟨none, 0, 0, ((.iface t42 u43)), rfl, rfl⟩, hs.pk (.f imON (.c d1 .n))⟩)
 rw [if_pos c41] at H
 refine st 19 [false] (k_op (lN (hs.bl d3) 1 3 ?_))
 obtain ⟨hk, bk⟩ := hs.call tk0 .n
 refine k_call H (fun _ m => attr_PutWcc.calls m hk) ?_
 rintro t44 _ h H ⟨I, _, ⟨rfl, rfl⟩, hk⟩
 replace hs := bk hk ct0 rfl
 refine k_op (nS (e := 5) hs .i (tInt .u8) ([t44] : List Int) [.int .u8 t44] 1 (.int .u8 0) (Reps.int (I := (Cl.G .i E.B I)) (k := .u8) (l := [t44])) ?_)
 intro b45 h hs
 replace hs := (hs.f d3)
 obtain ⟨l47, m48, H⟩ := bind_some H
 refine k_op (aO (e := 5) (bytes := 1) hs (hs.sO d1) m48 ?_)
 intro a49 p50 h hs
 obtain ⟨l52, m53, H⟩ := bind_some H
 refine st 1 [] (k_op (aO (e := 5) (bytes := 1) hs (hs.sO d2) m53 ?_))
 intro a54 p55 h hs
 refine st 6 [] (k_ite H (fun c57 H => ?_) (fun c57 H => ?_))
 ·obtain rfl := si H
  exact st 8 [true] (k_retQ ⟨_, by kernel_rfl, I, _, ⟨none, 0, 0, (.iface 137 (iv 6)), rfl, rfl⟩, hs.pk (.f imON (.f imEC .n))⟩)
 obtain rfl := si H
 exact st 9 [false] (k_retQ ⟨_, by kernel_rfl, I, _, ⟨a54, p55, l52.length, (.nilIface), rfl, rfl⟩, hs.pk (.c d0 (.f imEN .n))⟩)
def input_spot.m (x0 : Int) (x1 : GoErr) : Option GoErr :=
  (some (GoErr.spot x0 x1))
theorem input_spot.calls {B I : Gh} {h : Heap} {x0 : Int} {x1 : GoErr} {v21 : Value} {r : GoErr} (H : input_spot.m x0 x1 = some r)  :
    Fc Tryz.prog 67 #[iv x0, v21] [rE .i v21 x1] B I h (fun v L => ∃ v29, v = v29 ∧ L = [rE .i v29 r]) := by
 refine fc_of fun E hs => ?_
 unfold input_spot.m at H
 refine fn_of (rs := [.tmp 4]) (N := 10) Tryz.func67 rfl rfl rfl rfl ?_
 rcases (hs.er d0).cases with ⟨c23, rfl⟩ | ⟨c23, t24, u25, rfl⟩
 ·refine st 9 [] (k_op (nB hs [iv x0, .nilIface] ?_))
  intro b26 h hs
  have q27 := (hs.er d1)
  obtain ⟨I, hs⟩ := hs.fS q27
  obtain rfl := si H
  exact st 3 [] (k_retQ ⟨_, by kernel_rfl, I, _, ⟨((.iface 202 (pv b26))), rfl, rfl⟩, hs.pk (.c d0 .n)⟩)
 refine st 9 [] (k_op (nB hs [iv x0, (.iface t24 u25)] ?_))
 intro b26 h hs
 have q27 := (hs.er d1)
 obtain ⟨I, hs⟩ := hs.fS q27
 obtain rfl := si H
 exact st 3 [] (k_retQ ⟨_, by kernel_rfl, I, _, ⟨((.iface 202 (pv b26))), rfl, rfl⟩, hs.pk (.c d0 .n)⟩)
def input_letter.m (x0 : Int) : Option Bool :=
  (if x0 = 0 then (some false) else ((attr_Char.m x0).bind fun t22 => (some t22)))
theorem input_letter.calls {x0 : Int} {h : Heap} {r : Bool} (H : input_letter.m x0 = some r)   :
    Ret Tryz.prog 122 #[.int .u8 x0] h (fun v h' => .bool r = v ∧ h' = h) := by
 unfold input_letter.m at H
 refine fn_of (rs := [.tmp 2]) (N := 9) Tryz.func122 rfl rfl rfl rfl ?_
 refine st 7 [] (k_iteN H (fun c21 H => ?_) (fun c21 H => ?_))
 ·obtain rfl := si H
  exact st 6 [] (k_retQ ⟨_, by kernel_rfl, rfl, rfl⟩)
 refine st 2 [] (k_call H (fun _ m => attr_Char.calls m) ?_)
 rintro t22 _ _ H ⟨rfl, rfl⟩
 obtain rfl := si H
 exact st 3 [] (k_retQ ⟨_, by kernel_rfl, rfl, rfl⟩)
def input_strange.m (x0 : Int) : Option Bool :=
  ((input_letter.m x0).bind fun t21 => (some (!t21)))
theorem input_strange.calls {x0 : Int} {h : Heap} {r : Bool} (H : input_strange.m x0 = some r)   :
    Ret Tryz.prog 177 #[.int .u8 x0] h (fun v h' => .bool r = v ∧ h' = h) := by
 unfold input_strange.m at H
 refine fn_of (rs := [.tmp 2]) (N := 6) Tryz.func177 rfl rfl rfl rfl ?_
 refine st 7 [] (k_call H (fun _ m => input_letter.calls m) ?_)
 rintro t21 _ _ H ⟨rfl, rfl⟩
 obtain rfl := si H
 exact st 3 [] (k_retQ ⟨_, by kernel_rfl, rfl, rfl⟩)
def slices_IndexFunc_bytes__input_strange.l1.m (K : Nat) (x0 : (List Int)) : Nat → Int → Option (Int ⊕ (Unit))
  | 0, _ => none
  | k + 1, x26 => (letJ (α := Bool → Option (Int ⊕ (Unit))) (fun (x31 : Bool) => (bif x31 then (if 0 ≤ x26 then (if x26 < (x0.length : Int) then ((input_strange.m (at_ x0 x26)).bind fun t35 => bif t35 then (some (Sum.inl x26)) else (slices_IndexFunc_bytes__input_strange.l1.m K x0 k (w64 (x26 + 1)))) else none) else none) else (some (Sum.inr ())))) fun (j32 : Bool → Option (Int ⊕ (Unit))) => (if x26 < (x0.length : Int) then (j32 true) else (j32 false)))
def slices_IndexFunc_bytes__input_strange.m (K : Nat) (x0 : (List Int)) : Option Int :=
  ((slices_IndexFunc_bytes__input_strange.l1.m K x0 K 0).bind fun s27 => match s27 with | .inl q => (some q) | .inr _ => (some (-1)))
theorem slices_IndexFunc_bytes__input_strange.calls {G : Gh} {K : Nat} {x0 : (List Int)} {a21 : Option Addr} {p22 : Nat} {n23 : Nat} {h : Heap} {r : Int} (H : slices_IndexFunc_bytes__input_strange.m K x0 = some r)  (s25 : Sn (tInt .u8) G h a21 p22 n23 x0) :
    Ret Tryz.prog 172 #[.slice a21 n23 p22, .func (.func 177) #[] #[]] h (fun v h' => iv r = v ∧ h' = h) := by
 unfold slices_IndexFunc_bytes__input_strange.m at H
 obtain rfl := s25.len.symm
 refine fn_of (rs := [.tmp 4]) (N := 19) Tryz.func172 rfl rfl rfl rfl ?_
 refine st 12 [] ?_
 obtain ⟨s27, m29, HR28⟩ := bind_some H
 refine k_loop 0 (fun k' ρ h1 => ∃ (x26 : Int), slices_IndexFunc_bytes__input_strange.l1.m K x0 k' x26 = some s27 ∧ Fits [(0, .slice a21 x0.length p22), (1, .func (.func 177) #[] #[]), (7, iv (x0.length : Int)), (8, iv x26)] ρ ∧ h = h1) (fun ρ h1 => Sum.inr () = s27 ∧ Fits [] ρ ∧ h = h1) K ⟨0, m29, ft, rfl⟩ ?_ rfl ?_
 rotate_left
 ·rintro ρ h1 ⟨rfl, hf, rfl⟩
  have H := HR28
  try dsimp only at H
  refine k_fits _ hf ?_ rfl
  obtain rfl := si H
  exact st 4 [] (k_retQ ⟨_, by kernel_rfl, rfl, rfl⟩)
 clear m29 H
 rintro k' ρ h1 ⟨x26, H, hf, rfl⟩
 cases k' with
 | zero => cases H
 | succ k =>
  rw [slices_IndexFunc_bytes__input_strange.l1.m] at H
  refine k_fits _ hf ?_ rfl
  refine st 1 [] ?_
  obtain ⟨j32, e36, H⟩ := letJ_some H
  refine k_join (fun ρ h1 => ∃ (x31 : Bool), j32 x31 = some s27 ∧ Fits [(0, .slice a21 x0.length p22), (1, .func (.func 177) #[] #[]), (7, iv (x0.length : Int)), (8, iv x26), (9, .bool x31)] ρ ∧ h = h1) ?_ ?_
  ·refine st 1 [] (k_ite H (fun c30 H => ?_) (fun c30 H => ?_))
   ·exact st 1 [] (k_end ⟨true, H, ft, rfl⟩)
   exact st 1 [] (k_end ⟨false, H, ft, rfl⟩)
  clear H
  rintro ρ h1 ⟨x31, H, hf, rfl⟩
  refine k_fits _ hf ?_ rfl
  subst e36
  try dsimp only at H
  cases x31
  ·rw [cond_false] at H
   refine st 2 [false] (k_out rfl ?_)
   obtain rfl := si H
   exact xE ⟨rfl, trivial, rfl⟩
  rw [cond_true] at H
  obtain ⟨c33, H⟩ := guard_pos H
  obtain ⟨c34, H⟩ := guard_pos H
  refine st 15 [true] (k_val (elemPtr a21 (x26.toNat * 1)) (pI (e := 5) (ik := .i64) s25 c33 c34) ?_)
  refine k_op (lC (s25.cell1 c33 c34) ?_)
  refine k_call H (fun _ m => input_strange.calls m) ?_
  rintro t35 _ _ H ⟨rfl, rfl⟩
  cases t35
  ·rw [cond_false] at H
   exact st 8 [false] (k_endL ⟨k, Nat.lt_succ_self _, (w64 (x26 + 1)), H, ft, rfl⟩)
  rw [cond_true] at H
  refine st 7 [true] (k_retQ (krL ?_))
  obtain rfl := si H
  obtain rfl := Option.some.inj HR28
  exact ⟨_, by kernel_rfl, rfl, rfl⟩
def slices_ContainsFunc_bytes__input_strange.m (K : Nat) (x0 : (List Int)) : Option Bool :=
  ((slices_IndexFunc_bytes__input_strange.m K x0).bind fun t25 => (some (decide (t25 ≥ 0))))
theorem slices_ContainsFunc_bytes__input_strange.calls {B I : Gh} {h : Heap} {K : Nat} {x0 : (List Int)} {a21 : Option Addr} {p22 : Nat} {n23 : Nat} {r : Bool} (H : slices_ContainsFunc_bytes__input_strange.m K x0 = some r)  :
    Fc Tryz.prog 176 #[.slice a21 n23 p22, .func (.func 177) #[] #[]] [rR (tInt .u8) .b a21 p22 n23 x0] B I h (fun v L => v = .bool r ∧ L = []) := by
 refine fc_of fun E hs => ?_
 unfold slices_ContainsFunc_bytes__input_strange.m at H
 cases hs.nR d0
 refine fn_of (rs := [.tmp 4]) (N := 9) Tryz.func176 rfl rfl rfl rfl ?_
 refine st 8 [] (k_call H (fun _ m => slices_IndexFunc_bytes__input_strange.calls m (hs.sR d0)) ?_)
 rintro t25 _ _ H ⟨rfl, rfl⟩
 obtain rfl := si H
 exact st 3 [] (k_retQ ⟨_, by kernel_rfl, I, _, ⟨rfl, rfl⟩, hs.pk .n⟩)
def input_field.m (K : Nat) (x0 : api_Entry) (x1 : Bool) (x2 : Int) : Option GoErr :=
  (letJ (α := Bool → Option GoErr) (fun (x28 : Bool) => (letJ (α := Bool → Option GoErr) (fun (x33 : Bool) => (bif x33 then (some (GoErr.no 4)) else (letJ (α := Bool → Option GoErr) (fun (x36 : Bool) => (bif x36 then (some (GoErr.no 3)) else (bif x28 then (if (x0.Text.length : Int) = 0 then (some (GoErr.no 1)) else (some GoErr.nil)) else (some GoErr.nil)))) fun (j37 : Bool → Option GoErr) => ((slices_ContainsFunc_bytes__input_strange.m K x0.Text).bind fun t35 => bif t35 then (j37 true) else (j37 false))))) fun (j34 : Bool → Option GoErr) => (bif x28 then (j34 false) else (if x0.Addr < 0 then (j34 true) else (if x0.Addr ≥ x2 then (j34 true) else (j34 false)))))) fun (j29 : Bool → Option GoErr) => (bif x1 then (if x0.Addr = (-1) then (j29 true) else (j29 false)) else (j29 false)))
theorem input_field.calls {B I : Gh} {h : Heap} {K : Nat} {x0 : api_Entry} {x1 : Bool} {x2 : Int} {a21 : Option Addr} {p22 : Nat} {n23 : Nat} {r : GoErr} (H : input_field.m K x0 x1 x2 = some r)  :
    Fc Tryz.prog 119 #[.agg #[iv x0.Addr, .slice a21 n23 p22], .bool x1, iv x2] [rR (tInt .u8) .b a21 p22 n23 x0.Text] B I h (fun v L => ∃ v43, v = v43 ∧ L = [rE .i v43 r]) := by
 refine fc_of fun E hs => ?_
 unfold input_field.m at H
 cases hs.nR d0
 refine fn_of (rs := [.tmp 6]) (N := 43) Tryz.func119 rfl rfl rfl rfl ?_
 refine st 2 [] (k_op (nB hs [iv x0.Addr, .slice a21 x0.Text.length p22] ?_))
 intro b25 h hs
 refine st 3 [] ?_
 obtain ⟨j29, e42, H⟩ := letJ_some H
 refine k_joinT (fun T ρ h => ∃ (x28 : Bool), ∃ I, j29 x28 = some r ∧ Fits [(2, iv x2), (3, pv b25), (7, .bool x28)] ρ ∧ St E T I h) hs tl0 ?_ ?_
 ·refine st 1 [] (k_if H (fun c26 H => ?_) (fun c26 H => ?_))
  rotate_left
  ·exact st 7 [] (k_end ⟨false, I, H, ft, hs⟩)
  refine st 2 [] (k_op (lB (hs.bl d0) 0 rfl ?_))
  refine k_ite H (fun c27 H => ?_) (fun c27 H => ?_)
  ·exact st 3 [] (k_end ⟨true, I, H, ft, hs⟩)
  exact st 3 [] (k_end ⟨false, I, H, ft, hs⟩)
 clear H
 rintro ρ h ⟨x28, I, H, hf, hs⟩
 refine k_fits _ hf ?_ rfl
 subst e42
 try dsimp only at H
 refine st 3 [] ?_
 obtain ⟨j34, e41, H⟩ := letJ_some H
 refine k_joinT (fun T ρ h => ∃ (x33 : Bool), ∃ I, j34 x33 = some r ∧ Fits [(3, pv b25), (7, .bool x28), (14, .bool x33)] ρ ∧ St E T I h) hs tl0 ?_ ?_
 ·refine st 1 [] (k_if H (fun c30 H => ?_) (fun c30 H => ?_))
  ·exact st 14 [] (k_end ⟨false, I, H, ft, hs⟩)
  refine st 3 [] (k_op (lB (hs.bl d0) 0 rfl ?_))
  refine k_ite H (fun c31 H => ?_) (fun c31 H => ?_)
  ·exact st 9 [] (k_end ⟨true, I, H, ft, hs⟩)
  refine st 2 [] (k_op (lB (hs.bl d0) 0 rfl ?_))
  refine st 1 [] (k_ite H (fun c32 H => ?_) (fun c32 H => ?_))
  ·exact st 4 [] (k_end ⟨true, I, H, ft, hs⟩)
  exact st 4 [] (k_end ⟨false, I, H, ft, hs⟩)
 clear H
 rintro ρ h ⟨x33, I, H, hf, hs⟩
 refine k_fits _ hf ?_ rfl
 subst e41
 try dsimp only at H
 cases x33
 rotate_left
 ·rw [cond_true] at H
  obtain rfl := si H
  exact st 6 [true] (k_retQ ⟨_, by kernel_rfl, I, _, ⟨(.iface 137 (iv 4)), rfl, rfl⟩, hs.pk (.f imEC .n)⟩)
 rw [cond_false] at H
 refine st 2 [false] ?_
 obtain ⟨j37, e40, H⟩ := letJ_some H
 refine k_joinT (fun T ρ h => ∃ (x36 : Bool), ∃ I, j37 x36 = some r ∧ Fits [(3, pv b25), (7, .bool x28), (29, .bool x36)] ρ ∧ St E T I h) hs tl0 ?_ ?_
 ·refine st 2 [] (k_op (lB (hs.bl d0) 1 rfl ?_))
  obtain ⟨hk, bk⟩ := hs.call tk0 (.c (qB d1) .n)
  refine k_call H (fun _ m => slices_ContainsFunc_bytes__input_strange.calls m hk) ?_
  rintro t35 _ h H ⟨I, _, ⟨rfl, rfl⟩, hk⟩
  replace hs := bk hk ct0 rfl
  cases t35
  ·rw [cond_false] at H
   exact st 2 [] (k_end ⟨false, I, H, ft, hs⟩)
  rw [cond_true] at H
  exact st 2 [] (k_end ⟨true, I, H, ft, hs⟩)
 clear H
 rintro ρ h ⟨x36, I, H, hf, hs⟩
 refine k_fits _ hf ?_ rfl
 subst e40
 try dsimp only at H
 cases x36
 rotate_left
 ·rw [cond_true] at H
  obtain rfl := si H
  exact st 6 [true] (k_retQ ⟨_, by kernel_rfl, I, _, ⟨(.iface 137 (iv 3)), rfl, rfl⟩, hs.pk (.f imEC .n)⟩)
 rw [cond_false] at H
 refine st 3 [false] (k_if H (fun c38 H => ?_) (fun c38 H => ?_))
 rotate_left
 ·obtain rfl := si H
  exact st 15 [false] (k_retQ ⟨_, by kernel_rfl, I, _, ⟨(.nilIface), rfl, rfl⟩, hs.pk (.f imEN .n)⟩)
 refine st 2 [] (k_op (lB (hs.bl d0) 1 rfl ?_))
 refine st 1 [] (k_ite H (fun c39 H => ?_) (fun c39 H => ?_))
 ·obtain rfl := si H
  exact st 9 [true] (k_retQ ⟨_, by kernel_rfl, I, _, ⟨(.iface 137 (iv 1)), rfl, rfl⟩, hs.pk (.f imEC .n)⟩)
 obtain rfl := si H
 exact st 10 [false] (k_retQ ⟨_, by kernel_rfl, I, _, ⟨(.nilIface), rfl, rfl⟩, hs.pk (.f imEN .n)⟩)
def input_Right.l1.m (K : Nat) (x0 : api_In) (x1 : Int) : Nat → Int → Option (GoErr ⊕ (Unit))
  | 0, _ => none
  | k + 1, x36 => (letJ (α := Bool → Option (GoErr ⊕ (Unit))) (fun (x41 : Bool) => (bif x41 then (if 0 ≤ x36 then (if x36 < (x0.Fields.length : Int) then ((input_field.m K (at_ x0.Fields x36) ((x0.Fields.length : Int) == 1) x1).bind fun t54 => (if t54 = GoErr.nil then (input_Right.l1.m K x0 x1 k (w64 (x36 + 1))) else ((input_spot.m x36 t54).bind fun t60 => (some (Sum.inl t60))))) else none) else none) else (some (Sum.inr ())))) fun (j42 : Bool → Option (GoErr ⊕ (Unit))) => (if x36 < (x0.Fields.length : Int) then (j42 true) else (j42 false)))
def input_Right.m (K : Nat) (x0 : api_In) (x1 : Int) : Option GoErr :=
  (letJ (α := Bool → Option GoErr) (fun (x27 : Bool) => (bif x27 then (some (GoErr.no 3)) else (letJ (α := Bool → Option GoErr) (fun (x30 : Bool) => (bif x30 then (if x0.Cursor = 0 then (if (x0.Fields.length : Int) > 0 then (some (GoErr.no 1)) else (some GoErr.nil)) else (some (GoErr.no 1))) else (if x0.Cursor < 0 then (some (GoErr.no 4)) else (if x0.Cursor ≥ x1 then (some (GoErr.no 4)) else ((input_Right.l1.m K x0 x1 K 0).bind fun s37 => match s37 with | .inl q => (some q) | .inr _ => (some GoErr.nil)))))) fun (j31 : Bool → Option GoErr) => ((attr_Bare.m x0.Aid).bind fun t29 => bif t29 then (j31 true) else (j31 false))))) fun (j28 : Bool → Option GoErr) => ((attr_Aid.m x0.Aid).bind fun t26 => bif t26 then (j28 false) else (j28 true)))
theorem input_Right.calls {B I : Gh} {h : Heap} {K : Nat} {x0 : api_In} {x1 : Int} {a21 : Option Addr} {p22 : Nat} {n23 : Nat} {r : GoErr} (H : input_Right.m K x0 x1 = some r)  :
    Fc Tryz.prog 64 #[.agg #[.int .u8 x0.Aid, iv x0.Cursor, .slice a21 n23 p22], iv x1] [rR t_api_Entry .b a21 p22 n23 x0.Fields] B I h (fun v L => ∃ v66, v = v66 ∧ L = [rE .i v66 r]) := by
 refine fc_of fun E hs => ?_
 unfold input_Right.m at H
 cases hs.nR d0
 refine fn_of (rs := [.tmp 4]) (N := 60) Tryz.func64 rfl rfl rfl rfl ?_
 refine st 2 [] (k_op (nB hs [.int .u8 x0.Aid, iv x0.Cursor, .slice a21 x0.Fields.length p22] ?_))
 intro b25 h hs
 refine st 5 [] ?_
 obtain ⟨j28, e65, H⟩ := letJ_some H
 refine k_joinT (fun T ρ h => ∃ (x27 : Bool), ∃ I, j28 x27 = some r ∧ Fits [(1, iv x1), (2, pv b25), (8, .bool x27)] ρ ∧ St E T I h) hs tl0 ?_ ?_
 ·refine st 2 [] (k_op (lB (hs.bl d0) 0 rfl ?_))
  refine k_call H (fun _ m => attr_Aid.calls m) ?_
  rintro t26 _ _ H ⟨rfl, rfl⟩
  cases t26
  ·rw [cond_false] at H
   exact st 3 [] (k_end ⟨true, I, H, ft, hs⟩)
  rw [cond_true] at H
  exact st 3 [] (k_end ⟨false, I, H, ft, hs⟩)
 clear H
 rintro ρ h ⟨x27, I, H, hf, hs⟩
 refine k_fits _ hf ?_ rfl
 subst e65
 try dsimp only at H
 cases x27
 rotate_left
 ·rw [cond_true] at H
  obtain rfl := si H
  exact st 6 [true] (k_retQ ⟨_, by kernel_rfl, I, _, ⟨(.iface 137 (iv 3)), rfl, rfl⟩, hs.pk (.f imEC .n)⟩)
 rw [cond_false] at H
 refine st 2 [false] ?_
 obtain ⟨j31, e64, H⟩ := letJ_some H
 refine k_joinT (fun T ρ h => ∃ (x30 : Bool), ∃ I, j31 x30 = some r ∧ Fits [(1, iv x1), (2, pv b25), (14, .bool x30)] ρ ∧ St E T I h) hs tl0 ?_ ?_
 ·refine st 2 [] (k_op (lB (hs.bl d0) 0 rfl ?_))
  refine k_call H (fun _ m => attr_Bare.calls m) ?_
  rintro t29 _ _ H ⟨rfl, rfl⟩
  cases t29
  ·rw [cond_false] at H
   exact st 2 [] (k_end ⟨false, I, H, ft, hs⟩)
  rw [cond_true] at H
  exact st 2 [] (k_end ⟨true, I, H, ft, hs⟩)
 clear H
 rintro ρ h ⟨x30, I, H, hf, hs⟩
 refine k_fits _ hf ?_ rfl
 subst e64
 try dsimp only at H
 cases x30
 rotate_left
 ·rw [cond_true] at H
  refine st 5 [true] (k_op (lB (hs.bl d0) 1 rfl ?_))
  refine k_iteN H (fun c32 H => ?_) (fun c32 H => ?_)
  rotate_left
  ·obtain rfl := si H
   exact st 13 [true] (k_retQ ⟨_, by kernel_rfl, I, _, ⟨(.iface 137 (iv 1)), rfl, rfl⟩, hs.pk (.f imEC .n)⟩)
  refine st 2 [] (k_op (lB (hs.bl d0) 2 rfl ?_))
  refine st 1 [] (k_ite H (fun c33 H => ?_) (fun c33 H => ?_))
  ·obtain rfl := si H
   exact st 8 [true] (k_retQ ⟨_, by kernel_rfl, I, _, ⟨(.iface 137 (iv 1)), rfl, rfl⟩, hs.pk (.f imEC .n)⟩)
  obtain rfl := si H
  exact st 8 [false] (k_retQ ⟨_, by kernel_rfl, I, _, ⟨(.nilIface), rfl, rfl⟩, hs.pk (.f imEN .n)⟩)
 rw [cond_false] at H
 refine st 4 [false] (k_op (lB (hs.bl d0) 1 rfl ?_))
 refine k_ite H (fun c34 H => ?_) (fun c34 H => ?_)
 ·obtain rfl := si H
  exact st 14 [true] (k_retQ ⟨_, by kernel_rfl, I, _, ⟨(.iface 137 (iv 4)), rfl, rfl⟩, hs.pk (.f imEC .n)⟩)
 refine st 2 [] (k_op (lB (hs.bl d0) 1 rfl ?_))
 refine st 1 [] (k_ite H (fun c35 H => ?_) (fun c35 H => ?_))
 ·obtain rfl := si H
  exact st 9 [true] (k_retQ ⟨_, by kernel_rfl, I, _, ⟨(.iface 137 (iv 4)), rfl, rfl⟩, hs.pk (.f imEC .n)⟩)
 refine st 10 [false] (k_op (lB (hs.bl d0) 2 rfl ?_))
 refine st 4 [] ?_
 obtain ⟨s37, m39, HR38⟩ := bind_some H
 refine k_loopT hs tl0 1 (fun T k' ρ h => ∃ (x36 : Int), ∃ I, input_Right.l1.m K x0 x1 k' x36 = some s37 ∧ Fits [(1, iv x1), (2, pv b25), (40, .slice a21 x0.Fields.length p22), (41, iv (x0.Fields.length : Int)), (42, iv x36)] ρ ∧ St E T I h) (fun T ρ h => ∃ I, Sum.inr () = s37 ∧ Fits [] ρ ∧ St E T I h) K ⟨0, I, m39, ft, hs⟩ ?_ rfl ?_
 rotate_left
 ·rintro ρ h ⟨I, rfl, hf, hs⟩
  have H := HR38
  try dsimp only at H
  refine k_fits _ hf ?_ rfl
  obtain rfl := si H
  exact st 4 [] (k_retQ ⟨_, by kernel_rfl, I, _, ⟨(.nilIface), rfl, rfl⟩, hs.pk (.f imEN .n)⟩)
 clear m39 H
 rintro k' ρ h ⟨x36, I, H, hf, hs⟩
 cases k' with
 | zero => cases H
 | succ k =>
  rw [input_Right.l1.m] at H
  refine k_fits _ hf ?_ rfl
  refine st 1 [] ?_
  obtain ⟨j42, e63, H⟩ := letJ_some H
  refine k_joinT (fun T ρ h => ∃ (x41 : Bool), ∃ I, j42 x41 = some s37 ∧ Fits [(1, iv x1), (2, pv b25), (40, .slice a21 x0.Fields.length p22), (41, iv (x0.Fields.length : Int)), (42, iv x36), (43, .bool x41)] ρ ∧ St E T I h) hs tl0 ?_ ?_
  ·refine st 1 [] (k_ite H (fun c40 H => ?_) (fun c40 H => ?_))
   ·exact st 1 [] (k_end ⟨true, I, H, ft, hs⟩)
   exact st 1 [] (k_end ⟨false, I, H, ft, hs⟩)
  clear H
  rintro ρ h ⟨x41, I, H, hf, hs⟩
  refine k_fits _ hf ?_ rfl
  subst e63
  try dsimp only at H
  cases x41
  ·rw [cond_false] at H
   refine st 2 [false] (k_out rfl ?_)
   obtain rfl := si H
   exact xE ⟨I, rfl, trivial, hs⟩
  rw [cond_true] at H
  obtain ⟨c43, H⟩ := guard_pos H
  obtain ⟨c44, H⟩ := guard_pos H
  refine st 8 [true] (k_val (elemPtr a21 (x36.toNat * 2)) (pI (e := 135) (ik := .i64) (hs.sR d1) c43 c44) ?_)
  obtain ⟨y46, g45, q47⟩ := (hs.sR d1).toSl.seg c43 c44
  obtain ⟨a48, p49, n50, rfl, q52⟩ := t_api_Entry.open_ q47
  obtain rfl := q52.2
  replace hs := hs.pR q52
  refine k_op (lG g45 ?_)
  refine k_op (nA hs [iv 0, .slice none 0 0] (.agg #[iv 0, .slice none 0 0]) ?_)
  intro b53 h hs
  refine st 1 [] (k_op (sN0 hs [iv ((at_ x0.Fields x36).Addr), .slice a48 (((at_ x0.Fields x36).Text).length) p49] (ones_of rfl) ?_))
  intro h hs
  refine st 3 [] (k_op (lN (hs.bl d0) 0 2 ?_))
  refine st 1 [] (k_op (lB (hs.bl d2) 2 rfl ?_))
  obtain ⟨hk, bk⟩ := hs.call tk0 (.c (qB d1) .n)
  refine st 3 [] (k_call H (fun _ m => input_field.calls m hk) ?_)
  rintro t54 v55 h H ⟨I, _, ⟨_, rfl, rfl⟩, hk⟩
  replace hs := bk hk ct1 rfl
  rcases (hs.er d0).cases with ⟨c57, rfl⟩ | ⟨c57, t58, u59, rfl⟩
  ·rw [if_pos c57] at H
   exact st 14 [false] (k_endL ⟨k, Nat.lt_succ_self _, (w64 (x36 + 1)), I, H, ft, hs.pk pk3⟩)
  rw [if_neg c57] at H
  obtain ⟨hk, bk⟩ := hs.call tk0 (.c (xK d0) .n)
  refine st 12 [true] (k_call H (fun _ m => input_spot.calls m hk) ?_)
  rintro t60 v61 h H ⟨I, _, ⟨_, rfl, rfl⟩, hk⟩
  replace hs := bk hk ct1 rfl
  refine st 2 [] (k_retQ (krL ?_))
  obtain rfl := si H
  obtain rfl := Option.some.inj HR38
  exact ⟨_, by kernel_rfl, I, _, ⟨(v61), rfl, rfl⟩, hs.pk (.c d0 .n)⟩
def input_place.m (K : Nat) (x0 : Int) (x1 : Int) : Option (List Int) :=
  ((addr_Put.m K x0 x1).bind fun t21 => (some t21.1))
theorem input_place.calls {B I : Gh} {h : Heap} {K : Nat} {x0 : Int} {x1 : Int} {r : (List Int)} (H : input_place.m K x0 x1 = some r)  :
    Fc Tryz.prog 66 #[iv x0, iv x1] [] B I h (fun v L => ∃ a27 p28 n29, v = .slice a27 n29 p28 ∧ L = [rR (tInt .u8) .i a27 p28 n29 r]) := by
 refine fc_of fun E hs => ?_
 unfold input_place.m at H
 refine fn_of (rs := [.tmp 4]) (N := 14) Tryz.func66 rfl rfl rfl rfl ?_
 obtain ⟨hk, bk⟩ := hs.call tk0 .n
 refine st 8 [] (k_call H (fun _ m => addr_Put.calls m hk) ?_)
 rintro t21 _ h H ⟨I, _, ⟨v23, rfl, rfl, hl22⟩, hk⟩
 replace hs := bk hk ct1 rfl
 refine st 3 [] (k_op (nA hs (List.map (Value.int .u8) (List.replicate 2 (0 : Int))) (.agg (List.map (Value.int .u8) (List.replicate 2 (0 : Int))).toArray) ?_))
 intro b25 h hs
 refine k_op (sAN (l2 := t21.1) hs (List.length_replicate (n := 2) (a := (0 : Int))) hl22 ?_)
 intro h hs
 obtain ⟨I, hs⟩ := hs.fA hl22
 obtain rfl := si H
 exact st 7 [] (k_retQ ⟨_, by kernel_rfl, I, _, ⟨(sa b25), 2, 2, rfl, rfl⟩, hs.pk (.c d0 .n)⟩)
def input_Write.l1.m (K : Nat) (x0 : api_In) (x1 : Int) : Nat → (List Int) → Int → Option ((List Int))
  | 0, _, _ => none
  | k + 1, x45, x50 => (letJ (α := Bool → Option ((List Int))) (fun (x60 : Bool) => (bif x60 then (if 0 ≤ x50 then (if x50 < (x0.Fields.length : Int) then (letJ (α := Bool → Option ((List Int))) (fun (x74 : Bool) => (bif x74 then ((app x45 [17]).bind fun l78 => ((input_place.m K ((at_ x0.Fields x50).Addr) x1).bind fun t83 => ((app l78 t83).bind fun l88 => ((app l88 ((at_ x0.Fields x50).Text)).bind fun l93 => (input_Write.l1.m K x0 x1 k l93 (w64 (x50 + 1))))))) else ((app x45 ((at_ x0.Fields x50).Text)).bind fun l98 => (input_Write.l1.m K x0 x1 k l98 (w64 (x50 + 1)))))) fun (j75 : Bool → Option ((List Int))) => (if (at_ x0.Fields x50).Addr = (-1) then (j75 false) else (j75 true))) else none) else none) else (some (x45)))) fun (j61 : Bool → Option ((List Int))) => (if x50 < (x0.Fields.length : Int) then (j61 true) else (j61 false)))
def input_Write.m (K : Nat) (x0 : api_In) (x1 : Int) : Option ((List Int) × GoErr) :=
  ((input_Right.m K x0 x1).bind fun t26 => (if t26 = GoErr.nil then ((attr_Bare.m x0.Aid).bind fun t34 => bif t34 then (some ([x0.Aid], GoErr.nil)) else ((input_place.m K x0.Cursor x1).bind fun t35 => ((app [x0.Aid] t35).bind fun l40 => ((input_Write.l1.m K x0 x1 K l40 0).bind fun x52 => (if (x52.length : Int) > 8192 then (some ([], (GoErr.no 6))) else (some (x52, GoErr.nil))))))) else (some ([], t26))))
theorem input_Write.calls {B I : Gh} {h : Heap} {K : Nat} {x0 : api_In} {x1 : Int} {a21 : Option Addr} {p22 : Nat} {n23 : Nat} {r : ((List Int) × GoErr)} (H : input_Write.m K x0 x1 = some r)  :
    Fc Tryz.prog 17 #[.agg #[.int .u8 x0.Aid, iv x0.Cursor, .slice a21 n23 p22], iv x1] [rR t_api_Entry .b a21 p22 n23 x0.Fields] B I h (fun v L => ∃ a106 p107 n108 v110, v = .tuple #[.slice a106 n108 p107, v110] ∧ L = [rO (tInt .u8) .i a106 p107 n108 r.1, rE .i v110 r.2]) := by
 refine fc_of fun E hs => ?_
 unfold input_Write.m at H
 cases hs.nR d0
 refine fn_of (rs := [.tmp 4, .tmp 5]) (N := 57) Tryz.func17 rfl rfl rfl rfl ?_
 refine st 2 [] (k_op (nB hs [.int .u8 x0.Aid, iv x0.Cursor, .slice a21 x0.Fields.length p22] ?_))
 intro b25 h hs
 refine st 6 [] (k_op (lN (hs.bl d0) 0 3 ?_))
 obtain ⟨hk, bk⟩ := hs.call tk0 (.c (qB d1) .n)
 refine st 1 [] (k_call H (fun _ m => input_Right.calls m hk) ?_)
 rintro t26 v27 h H ⟨I, _, ⟨_, rfl, rfl⟩, hk⟩
 replace hs := bk hk ct1 rfl
 rcases (hs.er d0).cases with ⟨c29, rfl⟩ | ⟨c29, t30, u31, rfl⟩
 rotate_left
 ·rw [if_neg c29] at H
  obtain rfl := si H
  exact st 14 [true] (k_retQ ⟨_, by kernel_rfl, I, _, ⟨none, 0, 0, ((.iface t30 u31)), rfl, rfl⟩, hs.pk (.f imON (.c d0 .n))⟩)
 rw [if_pos c29] at H
 refine st 12 [false] (k_op (lB (hs.bl d1) 0 rfl ?_))
 refine k_op (nS (e := 5) hs .i (tInt .u8) ([x0.Aid] : List Int) [.int .u8 x0.Aid] 1 (.int .u8 0) (Reps.int (I := (Cl.G .i E.B I)) (k := .u8) (l := [x0.Aid])) ?_)
 intro b32 h hs
 refine st 6 [] (k_op (lB (hs.bl d2) 0 rfl ?_))
 refine k_call H (fun _ m => attr_Bare.calls m) ?_
 rintro t34 _ _ H ⟨rfl, rfl⟩
 cases t34
 rotate_left
 ·rw [cond_true] at H
  obtain rfl := si H
  exact st 8 [true] (k_retQ ⟨_, by kernel_rfl, I, _, ⟨(sa b32), 1, 1, (.nilIface), rfl, rfl⟩, hs.pk (.c d0 (.f imEN .n))⟩)
 rw [cond_false] at H
 refine st 7 [false] (k_op (lB (hs.bl d2) 1 rfl ?_))
 obtain ⟨hk, bk⟩ := hs.call tk0 .n
 refine st 1 [] (k_call H (fun _ m => input_place.calls m hk) ?_)
 rintro t35 _ h H ⟨I, _, ⟨a36, p37, n38, rfl, rfl⟩, hk⟩
 replace hs := bk hk ct1 rfl
 cases hs.nR d0
 replace hs := (hs.f d1)
 obtain ⟨l40, m41, H⟩ := bind_some H
 refine k_op (aO (e := 5) (bytes := 1) hs (hs.sR d1) m41 ?_)
 intro a42 p43 h hs
 refine st 6 [] (k_op (lB (hs.bl d3) 2 rfl ?_))
 refine st 4 [] ?_
 obtain ⟨s51, m58, HR57⟩ := bind_some H
 refine k_loopT hs tl1 0 (fun T k' ρ h => ∃ (x45 : List Int) (x50 : Int), ∃ a46 p47 n48 I, input_Write.l1.m K x0 x1 k' x45 x50 = some s51 ∧ Fits [(1, iv x1), (7, .slice a46 n48 p47), (30, .slice a21 x0.Fields.length p22), (31, iv (x0.Fields.length : Int)), (32, iv x50)] ρ ∧ St E (rO (tInt .u8) .i a46 p47 n48 x45 :: T) I h) (fun T ρ h => ∃ (x52 : List Int), ∃ a53 p54 n55 I, x52 = s51 ∧ Fits [(7, .slice a53 n55 p54)] ρ ∧ St E (rO (tInt .u8) .i a53 p54 n55 x52 :: T) I h) K ⟨l40, 0, a42, p43, l40.length, I, m58, ft, hs.pk (.c d0 pk0)⟩ ?_ rfl ?_
 rotate_left
 ·rintro ρ h ⟨x52, a53, p54, n55, I, rfl, hf, hs⟩
  have H := HR57
  try dsimp only at H
  refine k_fits _ hf ?_ rfl
  cases hs.nO d0
  refine st 5 [] (k_ite H (fun c105 H => ?_) (fun c105 H => ?_))
  ·obtain rfl := si H
   exact st 8 [true] (k_retQ ⟨_, by kernel_rfl, I, _, ⟨none, 0, 0, (.iface 137 (iv 6)), rfl, rfl⟩, hs.pk (.f imON (.f imEC .n))⟩)
  obtain rfl := si H
  exact st 9 [false] (k_retQ ⟨_, by kernel_rfl, I, _, ⟨a53, p54, x52.length, (.nilIface), rfl, rfl⟩, hs.pk (.c d0 (.f imEN .n))⟩)
 clear HR57 m58 H
 rintro k' ρ h ⟨x45, x50, a46, p47, n48, I, H, hf, hs⟩
 cases k' with
 | zero => cases H
 | succ k =>
  rw [input_Write.l1.m] at H
  refine k_fits _ hf ?_ rfl
  cases hs.nO d0
  refine st 1 [] ?_
  obtain ⟨j61, e104, H⟩ := letJ_some H
  refine k_joinT (fun T ρ h => ∃ (x60 : Bool), ∃ I, j61 x60 = some s51 ∧ Fits [(1, iv x1), (7, .slice a46 x45.length p47), (30, .slice a21 x0.Fields.length p22), (31, iv (x0.Fields.length : Int)), (32, iv x50), (33, .bool x60)] ρ ∧ St E T I h) hs tl0 ?_ ?_
  ·refine st 1 [] (k_ite H (fun c59 H => ?_) (fun c59 H => ?_))
   ·exact st 1 [] (k_end ⟨true, I, H, ft, hs⟩)
   exact st 1 [] (k_end ⟨false, I, H, ft, hs⟩)
  clear H
  rintro ρ h ⟨x60, I, H, hf, hs⟩
  refine k_fits _ hf ?_ rfl
  subst e104
  try dsimp only at H
  cases x60
  ·rw [cond_false] at H
   refine st 2 [false] (k_out rfl ?_)
   obtain rfl := si H
   exact xE ⟨x45, a46, p47, x45.length, I, rfl, ft, hs.pk (.c d0 pk0)⟩
  rw [cond_true] at H
  obtain ⟨c62, H⟩ := guard_pos H
  obtain ⟨c63, H⟩ := guard_pos H
  refine st 7 [true] (k_val (elemPtr a21 (x50.toNat * 2)) (pI (e := 135) (ik := .i64) (hs.sR d4) c62 c63) ?_)
  obtain ⟨y65, g64, q66⟩ := (hs.sR d4).toSl.seg c62 c63
  obtain ⟨a67, p68, n69, rfl, q71⟩ := t_api_Entry.open_ q66
  obtain rfl := q71.2
  replace hs := hs.pR q71
  refine k_op (lG g64 ?_)
  refine k_op (nA hs [iv 0, .slice none 0 0] (.agg #[iv 0, .slice none 0 0]) ?_)
  intro b72 h hs
  refine k_op (sN0 hs [iv ((at_ x0.Fields x50).Addr), .slice a67 (((at_ x0.Fields x50).Text).length) p68] (ones_of rfl) ?_)
  intro h hs
  refine st 3 [] ?_
  obtain ⟨j75, e103, H⟩ := letJ_some H
  refine k_joinT (fun T ρ h => ∃ (x74 : Bool), ∃ I, j75 x74 = some s51 ∧ Fits [(1, iv x1), (7, .slice a46 x45.length p47), (9, pv b72), (30, .slice a21 x0.Fields.length p22), (31, iv (x0.Fields.length : Int)), (32, iv x50), (38, .bool x74)] ρ ∧ St E T I h) hs tl0 ?_ ?_
  ·refine st 2 [] (k_op (lB (hs.bl d0) 0 rfl ?_))
   refine k_iteN H (fun c73 H => ?_) (fun c73 H => ?_)
   ·exact st 1 [] (k_end ⟨false, I, H, ft, hs⟩)
   exact st 1 [] (k_end ⟨true, I, H, ft, hs⟩)
  clear H
  rintro ρ h ⟨x74, I, H, hf, hs⟩
  refine k_fits _ hf ?_ rfl
  subst e103
  try dsimp only at H
  cases x74
  ·rw [cond_false] at H
   refine st 5 [false] (k_op (lB (hs.bl d0) 1 rfl ?_))
   replace hs := (hs.f d2)
   obtain ⟨l98, m99, H⟩ := bind_some H
   refine k_op (aO (e := 5) (bytes := 1) hs ((hs.sR d2).flat flat_int) m99 ?_)
   intro a100 p101 h hs
   exact st 7 [] (k_endL ⟨k, Nat.lt_succ_self _, l98, (w64 (x50 + 1)), a100, p101, l98.length, I, H, ft, hs.pk (.c d0 pk2)⟩)
  rw [cond_true] at H
  refine st 1 [true] ?_
  obtain ⟨hs0, bk0⟩ := (hs.f d2).call tk1 (.c (qL d0) .n)
  have hs := hs0
  refine k_regD hs0 6 ?_
  refine aRun [0, 3] 7 hs.keep ?_
  refine aL 4 rfl hs.keep (ll hs0 d1 (n := 0) rfl) (nmL hs0 d1) ?_
  refine aRun [5] 5 hs.keep ?_
  refine aO1 1 rfl (nS (e := 5) hs .i (tInt .u8) ([17] : List Int) [.int .u8 17] 1 (.int .u8 0) (Reps.int (I := (Cl.G .i E.B I)) (k := .u8) (l := [17])) ?_)
  intro b76 h hs
  refine ⟨hs.keep, ?_⟩
  replace hs := (hs.f d1)
  obtain ⟨l78, m79, H⟩ := bind_some H
  refine aO1 2 rfl (aO (e := 5) (bytes := 1) hs (hs.sO d1) m79 ?_)
  intro a80 p81 h hs
  refine ⟨hs.keep, ?_⟩
  replace hs := hs.pk (.c d0 (.c d0 .n))
  replace hs := bk0 hs ct2 rfl
  obtain ⟨hk, bk⟩ := hs.call tk0 .n
  refine aOL 6 rfl (o_call H (fun _ m => input_place.calls m hk) ?_)
  rintro t83 _ h H ⟨I, _, ⟨a84, p85, n86, rfl, rfl⟩, hk⟩
  replace hs := bk hk ct1 rfl
  cases hs.nR d0
  replace hs := (hs.f d1)
  obtain ⟨l88, m89, H⟩ := bind_some H
  refine aOL 7 rfl (aO (e := 5) (bytes := 1) hs (hs.sR d1) m89 ?_)
  intro a90 p91 h hs
  refine aOL 8 rfl (owp_pure (.slice a90 l88.length p91) (by kernel_rfl) ?_)
  refine aEnd ?_
  refine st 3 [] (k_op (lB (hs.bl d3) 1 rfl ?_))
  obtain ⟨l93, m94, H⟩ := bind_some H
  refine k_op (aO (e := 5) (bytes := 1) hs ((hs.sR d4).flat flat_int) m94 ?_)
  intro a95 p96 h hs
  exact st 7 [] (k_endL ⟨k, Nat.lt_succ_self _, l93, (w64 (x50 + 1)), a95, p96, l93.length, I, H, ft, hs.pk (.c d0 pk4)⟩)
def read_Reply.m (K : Nat) (x0 : api_Screen) (x1 : Int) (x2 : Int) : Option ((List Int) × GoErr) :=
  (letJ (α := Bool → Option ((List Int) × GoErr)) (fun (x27 : Bool) => (bif x27 then ((read_Modified.m K x0 x2).bind fun t29 => (if t29.2 = GoErr.nil then ((grid_Size.m x0).bind fun t40 => ((input_Write.m K t29.1 t40).bind fun t41 => (some (t41.1, t41.2)))) else (some ([], t29.2)))) else (letJ (α := Bool → Option ((List Int) × GoErr)) (fun (x49 : Bool) => (bif x49 then ((read_Image.m K x0).bind fun t51 => ((grid_Size.m x0).bind fun t56 => ((stream_Write.m K (⟨241, (⟨false, false, false⟩ : api_Wcc), t51⟩ : api_Out) t56).bind fun t57 => (some (t57.1, t57.2))))) else (some ([], (GoErr.no 5))))) fun (j50 : Bool → Option ((List Int) × GoErr)) => (if x1 = 242 then (j50 true) else (j50 false))))) fun (j28 : Bool → Option ((List Int) × GoErr)) => (if x1 = 246 then (j28 true) else (j28 false)))
theorem read_Reply.calls {B I : Gh} {h : Heap} {K : Nat} {x0 : api_Screen} {x1 : Int} {x2 : Int} {a21 : Option Addr} {p22 : Nat} {n23 : Nat} {r : ((List Int) × GoErr)} (H : read_Reply.m K x0 x1 x2 = some r)  :
    Fc Tryz.prog 186 #[.agg #[iv x0.Rows, iv x0.Cols, .slice a21 n23 p22, iv x0.Cursor, .bool x0.Locked, .bool x0.Insert], iv x1, .int .u8 x2] [rR t_api_Cell .b a21 p22 n23 x0.Cells] B I h (fun v L => ∃ a66 p67 n68 v70, v = .tuple #[.slice a66 n68 p67, v70] ∧ L = [rO (tInt .u8) .i a66 p67 n68 r.1, rE .i v70 r.2]) := by
 refine fc_of fun E hs => ?_
 unfold read_Reply.m at H
 cases hs.nR d0
 refine fn_of (rs := [.tmp 6, .tmp 7]) (N := 39) Tryz.func186 rfl rfl rfl rfl ?_
 refine st 2 [] (k_op (nB hs [iv x0.Rows, iv x0.Cols, .slice a21 x0.Cells.length p22, iv x0.Cursor, .bool x0.Locked, .bool x0.Insert] ?_))
 intro b25 h hs
 refine st 10 [] ?_
 obtain ⟨j28, e65, H⟩ := letJ_some H
 refine k_joinT (fun T ρ h => ∃ (x27 : Bool), ∃ I, j28 x27 = some r ∧ Fits [(2, .int .u8 x2), (3, pv b25), (10, iv x1), (11, .bool x27)] ρ ∧ St E T I h) hs tl0 ?_ ?_
 ·refine st 1 [] (k_ite H (fun c26 H => ?_) (fun c26 H => ?_))
  ·exact st 2 [] (k_end ⟨true, I, H, ft, hs⟩)
  exact st 2 [] (k_end ⟨false, I, H, ft, hs⟩)
 clear H
 rintro ρ h ⟨x27, I, H, hf, hs⟩
 refine k_fits _ hf ?_ rfl
 subst e65
 try dsimp only at H
 cases x27
 rotate_left
 ·rw [cond_true] at H
  refine st 3 [true] (k_op (lN (hs.bl d0) 0 6 ?_))
  obtain ⟨hk, bk⟩ := hs.call tk0 (.c (qB d1) .n)
  refine st 1 [] (k_call H (fun _ m => read_Modified.calls m hk) ?_)
  rintro t29 _ h H ⟨I, _, ⟨a30, p31, n32, v34, rfl, rfl⟩, hk⟩
  replace hs := bk hk ct2 rfl
  cases hs.nO d0
  refine st 3 [] (k_op (nA hs [.int .u8 0, iv 0, .slice none 0 0] (.agg #[.int .u8 0, iv 0, .slice none 0 0]) ?_))
  intro b36 h hs
  refine k_op (sN0 hs [.int .u8 t29.1.Aid, iv t29.1.Cursor, .slice a30 t29.1.Fields.length p31] (ones_of rfl) ?_)
  intro h hs
  rcases (hs.er d2).cases with ⟨c37, rfl⟩ | ⟨c37, t38, u39, rfl⟩
  rotate_left
  ·rw [if_neg c37] at H
   obtain rfl := si H
   exact st 15 [true] (k_retQ ⟨_, by kernel_rfl, I, _, ⟨none, 0, 0, ((.iface t38 u39)), rfl, rfl⟩, hs.pk (.f imON (.c d2 .n))⟩)
  rw [if_pos c37] at H
  refine st 11 [false] ?_
  obtain ⟨hs0, bk0⟩ := hs.call tk0 (.c (qL d0) (.c (qL d3) (.c (qB d4) (.c (qO d1) .n))))
  have hs := hs0
  refine k_regD hs0 8 ?_
  refine aG 0 rfl hs.keep (lls hs0 d0 0 3 rfl) (nmL hs0 d0) ?_
  refine aG 1 rfl hs.keep (lls hs0 d1 0 6 rfl) (nmL hs0 d1) ?_
  obtain ⟨hk, bk⟩ := hs.call tk0 (.c (qB d2) .n)
  refine aO1 2 rfl (o_call H (fun _ m => grid_Size.calls m hk) ?_)
  rintro t40 _ h H ⟨I, _, ⟨rfl, rfl⟩, hk⟩
  replace hs := bk hk ct0 rfl
  refine ⟨hs.keep, ?_⟩
  obtain ⟨hk, bk⟩ := hs.call tk0 (.c (qB d3) .n)
  refine aO1 3 rfl (o_call H (fun _ m => input_Write.calls m hk) ?_)
  rintro t41 _ h H ⟨I, _, ⟨a42, p43, n44, v46, rfl, rfl⟩, hk⟩
  replace hs := bk hk ct2 rfl
  cases hs.nO d0
  refine ⟨hs.keep, ?_⟩
  refine aRun [4, 5, 6, 7] 0 hs.keep ?_
  replace hs := hs.pk (.c d0 (.c d0 .n))
  replace hs := bk0 hs ct2 rfl
  refine aEnd ?_
  obtain rfl := si H
  exact k_retQ ⟨_, by kernel_rfl, I, _, ⟨a42, p43, t41.1.length, (v46), rfl, rfl⟩, hs.pk (.c d0 (.c d0 .n))⟩
 rw [cond_false] at H
 refine st 2 [false] ?_
 obtain ⟨j50, e64, H⟩ := letJ_some H
 refine k_joinT (fun T ρ h => ∃ (x49 : Bool), ∃ I, j50 x49 = some r ∧ Fits [(3, pv b25), (28, .bool x49)] ρ ∧ St E T I h) hs tl0 ?_ ?_
 ·refine st 1 [] (k_ite H (fun c48 H => ?_) (fun c48 H => ?_))
  ·exact st 2 [] (k_end ⟨true, I, H, ft, hs⟩)
  exact st 2 [] (k_end ⟨false, I, H, ft, hs⟩)
 clear H
 rintro ρ h ⟨x49, I, H, hf, hs⟩
 refine k_fits _ hf ?_ rfl
 subst e64
 try dsimp only at H
 cases x49
 ·rw [cond_false] at H
  obtain rfl := si H
  exact st 9 [false] (k_retQ ⟨_, by kernel_rfl, I, _, ⟨none, 0, 0, (.iface 137 (iv 5)), rfl, rfl⟩, hs.pk (.f imON (.f imEC .n))⟩)
 rw [cond_true] at H
 refine st 2 [true] ?_
 obtain ⟨hs0, bk0⟩ := hs.call tk0 (.c (qL d0) (.c (qB d1) .n))
 have hs := hs0
 refine k_regD hs0 10 ?_
 refine aG 0 rfl hs.keep (lls hs0 d0 0 6 rfl) (nmL hs0 d0) ?_
 refine aG 3 rfl hs.keep (lls hs0 d0 0 6 rfl) (nmL hs0 d0) ?_
 obtain ⟨hk, bk⟩ := hs.call tk0 (.c (qB d1) .n)
 refine aO1 1 rfl (o_call H (fun _ m => read_Image.calls m hk) ?_)
 rintro t51 _ h H ⟨I, _, ⟨a52, p53, n54, rfl, rfl⟩, hk⟩
 replace hs := bk hk ct1 rfl
 cases hs.nO d0
 refine ⟨hs.keep, ?_⟩
 refine aRun [2] 6 hs.keep ?_
 obtain ⟨hk, bk⟩ := hs.call tk0 (.c (qB d2) .n)
 refine aO1 4 rfl (o_call H (fun _ m => grid_Size.calls m hk) ?_)
 rintro t56 _ h H ⟨I, _, ⟨rfl, rfl⟩, hk⟩
 replace hs := bk hk ct0 rfl
 refine ⟨hs.keep, ?_⟩
 obtain ⟨hk, bk⟩ := hs.call tk0 (.c (qO d0) .n)
 refine aO1 5 rfl (o_call H (fun _ m => stream_Write.calls m hk) ?_)
 rintro t57 _ h H ⟨I, _, ⟨a58, p59, n60, v62, rfl, rfl⟩, hk⟩
 replace hs := bk hk ct2 rfl
 cases hs.nO d0
 refine ⟨hs.keep, ?_⟩
 refine aRun [6, 7, 8, 9] 0 hs.keep ?_
 replace hs := hs.pk (.c d0 (.c d0 (.c d0 .n)))
 replace hs := bk0 hs ct3 rfl
 refine aEnd ?_
 obtain rfl := si H
 exact k_retQ ⟨_, by kernel_rfl, I, _, ⟨a58, p59, t57.1.length, (v62), rfl, rfl⟩, hs.pk (.c d0 (.c d0 .n))⟩
def slices_Chunk_bytes.m (x0 : List Int) (x1 : Int) : Option (List Int) := if 1 ≤ x1 ∧ x1 ≤ 1048576 ∧ (x0.length : Int) ≤ 1099511627776 then some (chX x1 x0.length x0.length 0) else none
theorem slices_Chunk_bytes.ok {x0 : List Int} {x1 : Int} {xs : List Int} (H : slices_Chunk_bytes.m x0 x1 = some xs) : 1 ≤ x1 ∧ x1 ≤ 1048576 ∧ (x0.length : Int) ≤ 1099511627776 ∧ chX x1 x0.length x0.length 0 = xs := by
 unfold slices_Chunk_bytes.m at H
 split at H
 · rename_i c; exact ⟨c.1, c.2.1, c.2.2, Option.some.inj H⟩
 · cases H
theorem slices_Chunk_bytes.mem {x0 : List Int} {x1 : Int} {xs pre rest : List Int} {x : Int} (H : slices_Chunk_bytes.m x0 x1 = some xs) (h : xs = pre ++ x :: rest) : 0 ≤ x ∧ x < chE x1 x0 x ∧ chE x1 x0 x ≤ (x0.length : Int) :=
 have q := slices_Chunk_bytes.ok H
 chE_mem q.1 q.2.2.2 h
theorem slices_Chunk_bytes.calls {B I : Gh} {h : Heap} {x0 : List Int} {x1 : Int} {a21 : Option Addr} {p22 : Nat} {n23 : Nat} {r : List Int} (H : slices_Chunk_bytes.m x0 x1 = some r) :
    Fc Tryz.prog 217 #[.slice a21 n23 p22, .int .i64 x1] [] B I h
      (fun v L => ∃ (b1 b2 : Nat), v = .func (.func 254) #[] #[.pointer (some ⟨b1, 0, none⟩), .pointer (some ⟨b2, 0, none⟩)] ∧
        L = [rB b1 [.slice a21 n23 p22] 31, rB b2 [.int .i64 x1] 3] ∧ slices_Chunk_bytes.m x0 x1 = some r) := by
 refine fc_of fun E hs => ?_
 have q := slices_Chunk_bytes.ok H
 refine fn_of (args := [.slice a21 n23 p22, .int .i64 x1]) (rs := [.tmp 4]) (N := 9) Tryz.func217 rfl rfl rfl rfl ?_
 refine st 2 [] (k_op (nB hs [.slice a21 n23 p22] ?_))
 intro b1 h hs
 refine k_op (nB hs [.int .i64 x1] ?_)
 intro b2 h hs
 refine st 5 [] (k_op (lB (hs.bl d0) 0 rfl ?_))
 refine k_val (.bool false) (pr_bool (b := decide (x1 < 1)) (by kernel_rfl) (decide_eq_false (by omega))) ?_
 refine st 8 [false] ?_
 refine k_retQ ?_
 exact ⟨_, by kernel_rfl, I, _, ⟨b1, b2, rfl, rfl, H⟩, hs.pk (.c d1 (.c d0 .n))⟩
structure ChkH (x0 : List Int) (x1 : Int) (a : Option Addr) (p b1 b2 : Nat) (h : Heap) : Prop where
  c1 : cellAt h (some ⟨b1, 0, none⟩) 0 = some (.slice a x0.length p)
  c2 : cellAt h (some ⟨b2, 0, none⟩) 0 = some (.int .i64 x1)
  rd : ∃ I, Rd (tInt .u8) I h a p x0
theorem slices_Chunk_bytes.iter {x0 : List Int} {x1 : Int} {a : Option Addr} {p b1 b2 : Nat} {xs : List Int} (H : slices_Chunk_bytes.m x0 x1 = some xs) :
    Iter Tryz.prog 254 #[.pointer (some ⟨b1, 0, none⟩), .pointer (some ⟨b2, 0, none⟩)] (fun x => #[Value.slice (slA a (chE x1 x0 x).toNat x.toNat 1) (sub x0 x (chE x1 x0 x)).length (sub x0 x (chE x1 x0 x)).length]) xs (ChkH x0 x1 a p b1 b2) := by
  obtain ⟨hn, hn2, hL, hxs⟩ := slices_Chunk_bytes.ok H
  intro l J Jx hJH hJG hXG hy h h0
  refine fn_of (args := [.func (.yield l) #[] #[], .pointer (some ⟨b1, 0, none⟩), .pointer (some ⟨b2, 0, none⟩)]) (rs := []) (N := 31) Tryz.func254 rfl rfl rfl rfl ?_
  refine st 5 [] ?_
  refine k_loop 0 (fun k ρ h => ∃ (pre rest : List Int) (i : Int), xs = pre ++ rest ∧ chX x1 x0.length k i = rest ∧ (x0.length : Int) - i ≤ k ∧ 0 ≤ i ∧ i ≤ x0.length + x1 ∧
    Fits [(0, .func (.yield l) #[] #[]), (1, .pointer (some ⟨b1, 0, none⟩)), (2, .pointer (some ⟨b2, 0, none⟩)), (4, .int .i64 i)] ρ ∧ J pre h)
    (fun _ h => J xs h) x0.length ⟨[], xs, 0, rfl, hxs, by omega, by omega, by omega, ⟨by kernel_rfl, by kernel_rfl, by kernel_rfl, by kernel_rfl, trivial⟩, h0⟩ ?_ rfl ?_
  · rintro k ρ h2 ⟨pre, rest, i, hx, hr, hk, hi0, hi1, hf, hJ⟩
    refine k_fits _ hf ?_ rfl
    have H0 := hJH _ _ hJ
    by_cases hlt : i < x0.length
    · cases k with
      | zero => exact absurd hk (by omega)
      | succ k =>
        unfold chX at hr
        rw [if_pos hlt] at hr
        subst hr
        have q := slices_Chunk_bytes.mem H hx
        have e1 : w64 (i + mn x1 ((sub x0 i (x0.length : Int)).length : Int)) = chE x1 x0 i := by
          have e2 : ((sub x0 i (x0.length : Int)).length : Int) = (x0.length : Int) - i := by rw [sub_length (Int.le_refl _)]; omega
          rw [e2, ← show chE x1 x0 i = i + mn x1 ((x0.length : Int) - i) from rfl, w64_sm (by omega) (by omega)]
        obtain ⟨I0, rd⟩ := H0.rd
        refine st 4 [] (k_op (lC (a := some ⟨b1, 0, none⟩) (n := 0) H0.c1 ?_))
        refine st 1 [] (k_val (.bool true) (pr_bool (b := decide (i < (x0.length : Int))) (by kernel_rfl) (decide_eq_true hlt)) ?_)
        refine st 6 [true] ?_
        refine k_regP 7 ?_
        refine aL (a := some ⟨b2, 0, none⟩) (n := 0) 0 rfl Keep.refl H0.c2 (fun _ _ x => x) ?_
        refine aL (a := some ⟨b1, 0, none⟩) (n := 0) 1 rfl Keep.refl H0.c1 (fun _ _ x => x) ?_
        refine aRun [2] 4 Keep.refl ?_
        refine aP 3 (.slice (slA a p i.toNat 1) (sub x0 i (x0.length : Int)).length (p - i.toNat)) rfl (pr_slice_l (e := 5) (k1 := .i64) rd.toSl ⟨rfl, rfl⟩ (by kernel_rfl) (by kernel_rfl) (by kernel_rfl) (by kernel_rfl) hi0 (by omega) (Int.le_refl _)) Keep.refl ?_
        refine aRun [4, 5, 6] 0 Keep.refl ?_
        refine aEnd ?_
        refine st 3 [] (k_op (lC (a := some ⟨b1, 0, none⟩) (n := 0) H0.c1 ?_))
        refine st 3 [] (k_val (.int .i64 (chE x1 x0 i)) (pr_int (by kernel_rfl) e1) ?_)
        refine st 2 [] (k_val (.int .i64 (chE x1 x0 i)) (pr_int (by kernel_rfl) e1) ?_)
        refine k_val (.slice (slA a (chE x1 x0 i).toNat i.toNat 1) (sub x0 i (chE x1 x0 i)).length (sub x0 i (chE x1 x0 i)).length) (pr_slice3 (e := 5) (k1 := .i64) (k2 := .i64) (k3 := .i64) rd.toSl (by kernel_rfl) (by kernel_rfl) (by kernel_rfl) (by kernel_rfl) (by kernel_rfl) (by kernel_rfl) q.1 q.2.1 q.2.2) ?_
        refine k_op (owp_yield (hy pre i _ h2 hx hJ) ?_)
        rintro b h3 (⟨rfl, hJ3⟩ | ⟨rfl, hX⟩)
        · have H3 := hJH _ _ hJ3
          refine st 7 [false] (k_op (lC (a := some ⟨b2, 0, none⟩) (n := 0) H3.c2 ?_))
          refine st 3 [] ?_
          have e3 : w64 (i + x1) = i + x1 := w64_sm (by omega) (by omega)
          exact k_endL ⟨k, by omega, pre ++ [i], chX x1 x0.length k (i + x1), w64 (i + x1), by rw [hx]; simp, by rw [e3], by rw [e3]; omega, by rw [e3]; omega, by rw [e3]; omega, ⟨by kernel_rfl, by kernel_rfl, by kernel_rfl, by kernel_rfl, trivial⟩, hJ3⟩
        · refine st 3 [true] ?_
          refine k_retQ (krL ?_)
          exact ⟨.tuple #[], by kernel_rfl, .inr ⟨_, hX⟩⟩
    · have hr0 : rest = [] := by
        cases k with
        | zero => exact hr.symm
        | succ k => unfold chX at hr; rw [if_neg hlt] at hr; exact hr.symm
      subst hr0
      rw [List.append_nil] at hx
      subst hx
      refine st 4 [] (k_op (lC (a := some ⟨b1, 0, none⟩) (n := 0) H0.c1 ?_))
      refine st 1 [] (k_val (.bool false) (pr_bool (b := decide (i < (x0.length : Int))) (by kernel_rfl) (decide_eq_false hlt)) ?_)
      refine st 2 [false] ?_
      refine k_out rfl ?_
      exact xE hJ
  · rintro ρ h2 hJ
    refine k_fin ?_
    exact ⟨.tuple #[], by kernel_rfl, .inl hJ⟩
def piece_Cut.l1.m (K : Nat) (x0 : (List Int)) : List Int → (List api_Pack) → Option ((List api_Pack))
  | [], x32 => some (x32)
  | x41 :: xs, x32 => ((slices_Clone_bytes.m (sub x0 x41 (chE 64 x0 x41))).bind fun t47 => ((app x32 [(⟨0, (w64 ((x32.length : Int) + 1)), false, t47⟩ : api_Pack)]).bind fun l54 => (piece_Cut.l1.m K x0 xs l54)))
def piece_Cut.m (K : Nat) (x0 : (List Int)) : Option ((List api_Pack) × GoErr) :=
  (if (x0.length : Int) = 0 then (some ([], (GoErr.no 2))) else (if (x0.length : Int) > 8192 then (some ([], (GoErr.no 6))) else ((slices_Chunk_bytes.m x0 64).bind fun t28 => ((piece_Cut.l1.m K x0 t28 []).bind fun x42 => (if 0 ≤ (w64 ((x42.length : Int) - 1)) then (if (w64 ((x42.length : Int) - 1)) < (x42.length : Int) then (some ((x42.set (w64 ((x42.length : Int) - 1)).toNat (⟨(at_ x42 (w64 ((x42.length : Int) - 1))).Ack, (at_ x42 (w64 ((x42.length : Int) - 1))).Num, true, (at_ x42 (w64 ((x42.length : Int) - 1))).Data⟩ : api_Pack)), GoErr.nil)) else none) else none)))))
theorem piece_Cut.calls {B I : Gh} {h : Heap} {K : Nat} {x0 : (List Int)} {a21 : Option Addr} {p22 : Nat} {n23 : Nat} {r : ((List api_Pack) × GoErr)} (H : piece_Cut.m K x0 = some r)  :
    Fc Tryz.prog 156 #[.slice a21 n23 p22] [rR (tInt .u8) .b a21 p22 n23 x0] B I h (fun v L => ∃ a69 p70 n71 v73, v = .tuple #[.slice a69 n71 p70, v73] ∧ L = [rO t_api_Pack .i a69 p70 n71 r.1, rE .i v73 r.2]) := by
 refine fc_of fun E hs => ?_
 unfold piece_Cut.m at H
 cases hs.nR d0
 refine fn_rangeW1 (args := [.slice a21 x0.length p22]) (rs := [.tmp 2, .tmp 3]) (N := 35) [_, _, _] Tryz.func156 rfl rfl rfl rfl ?_
 refine st 9 [] (k_ite H (fun c25 H => ?_) (fun c25 H => ?_))
 ·obtain rfl := si H
  exact st 9 [true] (k_retQ (krF ⟨_, by kernel_rfl, I, _, ⟨none, 0, 0, (.iface 137 (iv 2)), rfl, rfl⟩, hs.pk (.f imON (.f imEC .n))⟩))
 refine st 7 [false] (k_ite H (fun c26 H => ?_) (fun c26 H => ?_))
 ·obtain rfl := si H
  exact st 9 [true] (k_retQ (krF ⟨_, by kernel_rfl, I, _, ⟨none, 0, 0, (.iface 137 (iv 6)), rfl, rfl⟩, hs.pk (.f imON (.f imEC .n))⟩))
 refine st 6 [false] (k_op (nA hs [.slice none 0 0] (.slice none 0 0) ?_))
 intro b27 h hs
 obtain ⟨hk, bk⟩ := hs.call tk0 .n
 refine st 3 [] (k_call H (fun _ m => slices_Chunk_bytes.calls (a21 := a21) (p22 := p22) (n23 := x0.length) m hk) ?_)
 rintro t28 _ h H ⟨I, _, ⟨b29, b30, rfl, rfl, m31⟩, hk⟩
 replace hs := bk hk ct2 rfl
 refine st 1 [] ?_
 obtain ⟨s38, m39, HR40⟩ := bind_some H
 clear H
 obtain ⟨h37, eh37⟩ : ∃ h', h' = h := ⟨_, rfl⟩
 subst eh37
 refine k_loopW (range_st (p := 18) (enc := fun (x : Int) => .slice (slA a21 (Int.toNat (chE 64 x0 x)) (Int.toNat x) 1) ((sub x0 x (chE 64 x0 x)).length) (sub x0 x (chE 64 x0 x)).length) (hs.pk (.f imON (.c d2 (.c d2 (.c d0 (.c d0 .n)))))) (fun (pre : List Int) L => ∃ (rest : List Int), ∃ (x32 : List api_Pack), ∃ a33 p34 n35, t28 = pre ++ rest ∧ (piece_Cut.l1.m K x0 rest x32) = some s38 ∧ L = [rO t_api_Pack .i a33 p34 n35 x32, rB b27 [.slice a33 n35 p34] 236, rR (tInt .u8) .b a21 p22 x0.length x0, rB b29 [.slice a21 x0.length p22] 31, rB b30 [iv 64] 3]) (mkY (fun _ => False) (fun _ _ => False)) ⟨t28, [], none, 0, 0, rfl, m39, rfl⟩ (by kernel_rfl) (enters_of Tryz.func254 rfl (by kernel_rfl)) (slices_Chunk_bytes.iter (a := a21) (p := p22) (b1 := b29) (b2 := b30) m31) ?_ (fun x => [(5, .slice (slA a21 (Int.toNat (chE 64 x0 x)) (Int.toNat x) 1) ((sub x0 x (chE 64 x0 x)).length) (sub x0 x (chE 64 x0 x)).length), (18, .slice (slA a21 (Int.toNat (chE 64 x0 x)) (Int.toNat x) 1) ((sub x0 x (chE 64 x0 x)).length) (sub x0 x (chE 64 x0 x)).length)]) ?_ rfl ?_) ?_ ?_ ?_
 ·rintro o pre L I h' ⟨rest, x32, a33, p34, n35, _, _, rfl⟩ hs
  exact ⟨(hs.bl d4).cell (off := 0) rfl, (hs.bl d5).cell (off := 0) rfl, ⟨_, hs.rd d3⟩⟩
 ·intro x Q h' q
  exact st 3 [] (k_fin2 q)
 ·rintro o pre x41 rest' L I h hx' ⟨rest, x32, a33, p34, n35, hx, H, rfl⟩ hs
  obtain rfl : rest = x41 :: rest' := List.append_cancel_left (hx.symm.trans hx')
  clear hx'
  obtain ⟨rest, erest⟩ : ∃ r, r = rest' := ⟨_, rfl⟩
  subst erest
  rw [piece_Cut.l1.m] at H
  cases hs.nO d1
  replace hs := hs.part3 d3 (slices_Chunk_bytes.mem m31 hx)
  refine st 1 [] ?_
  obtain ⟨hs0, bk0⟩ := hs.call tk0 (.c (qL d3) (.c (qB d0) .n))
  have hs := hs0
  refine k_regD hs0 8 ?_
  refine aL 0 rfl hs.keep (ll hs0 d0 (n := 0) rfl) (nmL hs0 d0) ?_
  refine aL 1 rfl hs.keep (ll hs0 d0 (n := 0) rfl) (nmL hs0 d0) ?_
  refine aRun [2, 3, 4] 5 hs.keep ?_
  obtain ⟨hk, bk⟩ := hs.call tk0 (.c (qB d1) .n)
  refine aO1 5 rfl (o_call H (fun _ m => slices_Clone_bytes.calls m hk) ?_)
  rintro t47 _ h H ⟨I, _, ⟨a48, p49, n50, rfl, rfl⟩, hk⟩
  replace hs := bk hk ct1 rfl
  cases hs.nO d0
  refine ⟨hs.keep, ?_⟩
  obtain ⟨I, hs⟩ := hs.fO
  refine aRun [6] 3 hs.keep ?_
  refine aO1 7 rfl (nS (e := 108) hs .i t_api_Pack ([(⟨0, (w64 ((x32.length : Int) + 1)), false, t47⟩ : api_Pack)] : List api_Pack) [iv 0, iv (w64 ((x32.length : Int) + 1)), .bool false, .slice a48 t47.length p49] 4 (.agg #[iv 0, iv 0, .bool false, .slice none 0 0]) (Reps.cons (T := t_api_Pack) (c := [iv 0, iv (w64 ((x32.length : Int) + 1)), .bool false, .slice a48 t47.length p49]) (x := (⟨0, (w64 ((x32.length : Int) + 1)), false, t47⟩ : api_Pack)) ⟨_, _, _, rfl, (hs.g d0)⟩ (.nil : Reps t_api_Pack (Cl.G .i E.B I) h [] [])) ?_)
  intro b52 h hs
  refine ⟨hs.keep, ?_⟩
  replace hs := hs.pk (.c d0 (.c d0 .n))
  replace hs := bk0 hs ct2 rfl
  replace hs := (hs.f d4)
  obtain ⟨l54, m55, H⟩ := bind_some H
  refine aOL 8 rfl (aO (e := 108) (bytes := 48) hs (hs.sO d1) m55 ?_)
  intro a56 p57 h hs
  refine aOL 9 rfl (sB (v := .slice a56 l54.length p57) (hs.f d5) cw0 ?_)
  intro h hs
  refine aEnd ?_
  refine st 1 [] (k_fin ?_)
  exact ⟨_, I, ⟨rest, l54, a56, p57, l54.length, by simp [hx], H, rfl⟩, hs.pk (.c d5 (.c d1 (.c d0 (.c d3 (.c d3 (.c d3 .n))))))⟩
 ·intro h2 hk
  have key : ∃ (x42 : List api_Pack), ∃ a43 p44 n45, ∃ (o : Obj), ∃ I, x42 = s38 ∧ St E (rQ h37.size (h37.size + 1) o :: [rO t_api_Pack .i a43 p44 n45 x42, rB b27 [.slice a43 n45 p44] 236]) I h2 := by
    rcases hk with ⟨o, L, I, ⟨rest, x32, a33, p34, n35, hx, H, rfl⟩, hs⟩ | ⟨o, L, I, hy, hs⟩
    · obtain rfl : rest = [] := List.append_cancel_left (hx.symm.trans (List.append_nil _).symm)
      rw [piece_Cut.l1.m] at H
      obtain rfl := si H
      cases hs.nO d1
      exact ⟨x32, a33, p34, x32.length, o, I, rfl, hs.pk (.c d0 (.c d0 (.c d0 .n)))⟩
    · exact hy.elim
  obtain ⟨x42, a43, p44, n45, o, I, rfl, hs⟩ := key
  have H := HR40
  try dsimp only at H
  cases hs.nO d1
  refine st 2 [] (k_op (lB (hs.bl d2) 0 rfl ?_))
  refine k_op (lB (hs.bl d2) 0 rfl ?_)
  obtain ⟨c59, H⟩ := guard_pos H
  obtain ⟨c60, H⟩ := guard_pos H
  refine st 2 [] (k_val (elemPtr a43 ((w64 ((x42.length : Int) - 1)).toNat * 4)) (pI (e := 108) (ik := .i64) (hs.sO d1) c59 c60) ?_)
  refine k_val (elemPtr a43 ((w64 ((x42.length : Int) - 1)).toNat * 4 + 2)) (pF (off := 2) (hs.sO d1) c59 c60) ?_
  obtain ⟨y62, g61, q63⟩ := (hs.sO d1).toSl.seg c59 c60
  obtain ⟨a64, p65, n66, rfl, q68⟩ := t_api_Pack.open_ q63
  obtain rfl := q68.2
  replace hs := hs.pR q68
  replace hs := (hs.f d2)
  refine k_op (sE hs 2 [.bool true] (⟨(at_ x42 (w64 ((x42.length : Int) - 1))).Ack, (at_ x42 (w64 ((x42.length : Int) - 1))).Num, true, (at_ x42 (w64 ((x42.length : Int) - 1))).Data⟩ : api_Pack) c59 c60 g61 (ones_of rfl) ⟨_, _, _, rfl, (hs.g d1)⟩ ?_)
  intro h hs
  refine st 3 [] (k_op (lB (hs.bl d3) 0 rfl ?_))
  refine st 3 [] (k_retQ (krM ?_))
  obtain rfl := si H
  refine ⟨(hs.rqD d2).1, ?_⟩
  replace hs := (hs.f d2).rqe
  exact ⟨_, by kernel_rfl, I, _, ⟨a43, p44, x42.length, (.nilIface), rfl, rfl⟩, hs.pk (.c d0 (.f imEN .n))⟩
 ·rintro h2 ⟨o, L, I, hy, hs⟩
  exact hy.elim
 intro i L hy
 exact hy.elim
def line_Line_room.m (x0 : line_Line) (x1 : Int) : Option (Bool × line_Line) :=
  (some ((decide (x1 ≤ (w64 (200 - (x0.queue'.length : Int))))), x0))
theorem line_Line_room.calls {B I : Gh} {h : Heap} {x0 : line_Line} {x1 : Int} {b0 : Nat} {a21 : Option Addr} {p22 : Nat} {n23 : Nat} {v25 : Value} {v26 : Value} {r : (Bool × line_Line)} (H : line_Line_room.m x0 x1 = some r)  :
    Fc Tryz.prog 157 #[pv b0, iv x1] [rB b0 [.slice a21 n23 p22, iv x0.given', iv x0.await', v25, v26, iv x0.wait', iv x0.left', .bool x0.owes'] 239, rO t_api_Pack .i a21 p22 n23 x0.queue'] B I h (fun v L => ∃ a27 p28 n29, v = .bool r.1 ∧ L = [rB b0 [.slice a27 n29 p28, iv r.2.given', iv r.2.await', v25, v26, iv r.2.wait', iv r.2.left', .bool r.2.owes'] 239, rO t_api_Pack .i a27 p28 n29 r.2.queue']) := by
 refine fc_of fun E hs => ?_
 unfold line_Line_room.m at H
 cases hs.nO d1
 refine fn_of (rs := [.tmp 4]) (N := 13) Tryz.func157 rfl rfl rfl rfl ?_
 refine st 10 [] (k_op (lB (hs.bl d0) 0 rfl ?_))
 obtain rfl := si H
 exact st 5 [] (k_retQ ⟨_, by kernel_rfl, I, _, ⟨a21, p22, x0.queue'.length, rfl, rfl⟩, hs.pk (.c d0 (.c d0 .n))⟩)
def line_Line_now.m (x0 : line_Line) : Option line_Line :=
  (some (⟨x0.queue', x0.given', x0.await', x0.kept', x0.coming', 1, 0, x0.owes'⟩ : line_Line))
theorem line_Line_now.calls {B I : Gh} {h : Heap} {x0 : line_Line} {b0 : Nat} {v21 : Value} {v22 : Value} {v23 : Value} {r : line_Line} (H : line_Line_now.m x0 = some r)  :
    Fc Tryz.prog 158 #[pv b0] [rB b0 [v21, iv x0.given', iv x0.await', v22, v23, iv x0.wait', iv x0.left', .bool x0.owes'] 239] B I h (fun v L => v = .tuple #[] ∧ L = [rB b0 [v21, iv r.given', iv r.await', v22, v23, iv r.wait', iv r.left', .bool r.owes'] 239]) := by
 refine fc_of fun E hs => ?_
 unfold line_Line_now.m at H
 refine fn_of (rs := []) (N := 8) Tryz.func158 rfl rfl rfl rfl ?_
 refine st 5 [] (k_op (sB (v := iv 1) hs cw5 ?_))
 intro h hs
 refine st 2 [] (k_op (sB (v := iv 0) hs cw6 ?_))
 intro h hs
 refine st 1 [] (k_fin ?_)
 obtain rfl := si H
 exact ⟨_, by kernel_rfl, I, _, ⟨rfl, rfl⟩, hs.pk (.c d0 .n)⟩
def line_Line_Send.l1.m (K : Nat) (t31 : ((List api_Pack) × GoErr)) : Nat → Int → (List api_Pack) → Int → Option ((List api_Pack) × Int)
  | 0, _, _, _ => none
  | k + 1, x55, x56, x61 => (letJ (α := Bool → Option ((List api_Pack) × Int)) (fun (x72 : Bool) => (bif x72 then (if 0 ≤ x55 then (if x55 < (t31.1.length : Int) then ((app x56 [(⟨(at_ t31.1 x55).Ack, (w64 (x61 + 1)), (at_ t31.1 x55).Last, (at_ t31.1 x55).Data⟩ : api_Pack)]).bind fun l87 => (line_Line_Send.l1.m K t31 k (w64 (x55 + 1)) l87 (w64 (x61 + 1)))) else none) else none) else (some ((x56, x61))))) fun (j73 : Bool → Option ((List api_Pack) × Int)) => (if x55 < (t31.1.length : Int) then (j73 true) else (j73 false)))
def line_Line_Send.m (K : Nat) (x0 : line_Line) (x1 : (List Int)) : Option (GoErr × line_Line) :=
  ((piece_Cut.m K x1).bind fun t31 => (if t31.2 = GoErr.nil then ((line_Line_room.m x0 (t31.1.length : Int)).bind fun t41 => bif t41.1 then (letJ (α := Int → Int → Int → Int → Bool → Option (GoErr × line_Line)) (fun (x49 : Int) (x50 : Int) (x51 : Int) (x52 : Int) (x53 : Bool) => ((line_Line_Send.l1.m K t31 K 0 t41.2.queue' x49).bind fun (x63, x68) => (some (GoErr.nil, (⟨x63, x68, x50, x0.kept', x0.coming', x51, x52, x53⟩ : line_Line))))) fun (j54 : Int → Int → Int → Int → Bool → Option (GoErr × line_Line)) => (if (t41.2.queue'.length : Int) = 0 then ((line_Line_now.m (⟨t41.2.queue', t41.2.given', t41.2.await', x0.kept', x0.coming', t41.2.wait', t41.2.left', t41.2.owes'⟩ : line_Line)).bind fun t48 => (j54 t48.given' t48.await' t48.wait' t48.left' t48.owes')) else (j54 t41.2.given' t41.2.await' t41.2.wait' t41.2.left' t41.2.owes'))) else (some ((GoErr.no 10), (⟨t41.2.queue', t41.2.given', t41.2.await', x0.kept', x0.coming', t41.2.wait', t41.2.left', t41.2.owes'⟩ : line_Line)))) else (some (t31.2, x0))))
theorem line_Line_Send.calls {B I : Gh} {h : Heap} {K : Nat} {x0 : line_Line} {x1 : (List Int)} {b0 : Nat} {a21 : Option Addr} {p22 : Nat} {n23 : Nat} {v25 : Value} {v26 : Value} {a27 : Option Addr} {p28 : Nat} {n29 : Nat} {r : (GoErr × line_Line)} (H : line_Line_Send.m K x0 x1 = some r)  :
    Fc Tryz.prog 97 #[pv b0, .slice a27 n29 p28] [rB b0 [.slice a21 n23 p22, iv x0.given', iv x0.await', v25, v26, iv x0.wait', iv x0.left', .bool x0.owes'] 239, rO t_api_Pack .i a21 p22 n23 x0.queue', rR (tInt .u8) .b a27 p28 n29 x1] B I h (fun v L => ∃ v94 a96 p97 n98, v = v94 ∧ L = [rE .i v94 r.1, rB b0 [.slice a96 n98 p97, iv r.2.given', iv r.2.await', v25, v26, iv r.2.wait', iv r.2.left', .bool r.2.owes'] 239, rO t_api_Pack .i a96 p97 n98 r.2.queue']) := by
 refine fc_of fun E hs => ?_
 unfold line_Line_Send.m at H
 cases hs.nO d1
 cases hs.nR d2
 refine fn_of (rs := [.tmp 4]) (N := 60) Tryz.func97 rfl rfl rfl rfl ?_
 obtain ⟨hk, bk⟩ := hs.call tk0 (.c (qB d2) .n)
 refine st 7 [] (k_call H (fun _ m => piece_Cut.calls m hk) ?_)
 rintro t31 _ h H ⟨I, _, ⟨a32, p33, n34, v36, rfl, rfl⟩, hk⟩
 replace hs := bk hk ct2 rfl
 cases hs.nO d0
 rcases (hs.er d1).cases with ⟨c38, rfl⟩ | ⟨c38, t39, u40, rfl⟩
 rotate_left
 ·rw [if_neg c38] at H
  obtain rfl := si H
  exact st 18 [true] (k_retQ ⟨_, by kernel_rfl, I, _, ⟨((.iface t39 u40)), a21, p22, x0.queue'.length, rfl, rfl⟩, hs.pk (.c d1 (.c d1 (.c d1 .n)))⟩)
 rw [if_pos c38] at H
 obtain ⟨hk, bk⟩ := ((hs.f d3).f d3).call tk2 .n
 refine st 20 [false] (k_call H (fun _ m => line_Line_room.calls m hk) ?_)
 rintro t41 _ h H ⟨I, _, ⟨a42, p43, n44, rfl, rfl⟩, hk⟩
 replace hs := bk hk ct2 rfl
 cases hs.nO d1
 refine k_spl H (fun c46 H => ?_) (fun c46 H => ?_)
 rotate_left
 ·obtain rfl := si H
  exact st 8 [true] (k_retQ ⟨_, by kernel_rfl, I, _, ⟨(.iface 137 (iv 10)), a42, p43, t41.2.queue'.length, rfl, rfl⟩, hs.pk (.f imEC (.c d0 (.c d0 .n)))⟩)
 refine st 5 [false] ?_
 obtain ⟨j54, e93, H⟩ := letJ_some H
 refine k_joinT (fun T ρ h => ∃ (x49 : Int) (x50 : Int) (x51 : Int) (x52 : Int) (x53 : Bool), ∃ I, j54 x49 x50 x51 x52 x53 = some r ∧ Fits [(0, pv b0), (5, .slice a32 t31.1.length p33)] ρ ∧ St E (rB b0 [.slice a42 t41.2.queue'.length p43, iv x49, iv x50, v25, v26, iv x51, iv x52, .bool x53] 239 :: T) I h) hs tl1 ?_ ?_
 ·refine st 5 [] (k_op (lB (hs.bl d0) 0 rfl ?_))
  refine st 1 [] (k_ite H (fun c47 H => ?_) (fun c47 H => ?_))
  rotate_left
  ·exact st 3 [false] (k_end ⟨t41.2.given', t41.2.await', t41.2.wait', t41.2.left', t41.2.owes', I, H, ft, hs.pk (.c d0 pk0)⟩)
  obtain ⟨hk, bk⟩ := hs.call tk1 .n
  refine st 4 [true] (k_call H (fun _ m => line_Line_now.calls m hk) ?_)
  rintro t48 _ h H ⟨I, _, ⟨rfl, rfl⟩, hk⟩
  replace hs := bk hk ct1 rfl
  exact st 1 [] (k_end ⟨t48.given', t48.await', t48.wait', t48.left', t48.owes', I, H, ft, hs.pk (.c d0 pk0)⟩)
 clear H
 rintro ρ h ⟨x49, x50, x51, x52, x53, I, H, hf, hs⟩
 refine k_fits _ hf ?_ rfl
 subst e93
 try dsimp only at H
 refine st 8 [] ?_
 obtain ⟨s62, m70, HR69⟩ := bind_some H
 refine k_loopT hs tl2 0 (fun T k' ρ h => ∃ (x55 : Int) (x56 : List api_Pack) (x61 : Int), ∃ a57 p58 n59 I, line_Line_Send.l1.m K t31 k' x55 x56 x61 = some s62 ∧ Fits [(0, pv b0), (31, .slice a32 t31.1.length p33), (32, iv (t31.1.length : Int)), (33, iv x55)] ρ ∧ St E (rO t_api_Pack .i a57 p58 n59 x56 :: rB b0 [.slice a57 n59 p58, iv x61, iv x50, v25, v26, iv x51, iv x52, .bool x53] 239 :: T) I h) (fun T ρ h => ∃ (x63 : List api_Pack) (x68 : Int), ∃ a64 p65 n66 I, (x63, x68) = s62 ∧ Fits [] ρ ∧ St E (rO t_api_Pack .i a64 p65 n66 x63 :: rB b0 [.slice a64 n66 p65, iv x68, iv x50, v25, v26, iv x51, iv x52, .bool x53] 239 :: T) I h) K ⟨0, t41.2.queue', x49, a42, p43, t41.2.queue'.length, I, m70, ft, hs.pk (.c d1 (.c d0 pk0))⟩ ?_ rfl ?_
 rotate_left
 ·rintro ρ h ⟨x63, x68, a64, p65, n66, I, rfl, hf, hs⟩
  have H := HR69
  try dsimp only at H
  refine k_fits _ hf ?_ rfl
  cases hs.nO d0
  obtain rfl := si H
  exact st 4 [] (k_retQ ⟨_, by kernel_rfl, I, _, ⟨(.nilIface), a64, p65, x63.length, rfl, rfl⟩, hs.pk (.f imEN (.c d1 (.c d0 .n)))⟩)
 clear HR69 m70 H
 rintro k' ρ h ⟨x55, x56, x61, a57, p58, n59, I, H, hf, hs⟩
 cases k' with
 | zero => cases H
 | succ k =>
  rw [line_Line_Send.l1.m] at H
  refine k_fits _ hf ?_ rfl
  cases hs.nO d0
  refine st 1 [] ?_
  obtain ⟨j73, e92, H⟩ := letJ_some H
  refine k_joinT (fun T ρ h => ∃ (x72 : Bool), ∃ I, j73 x72 = some s62 ∧ Fits [(0, pv b0), (31, .slice a32 t31.1.length p33), (32, iv (t31.1.length : Int)), (33, iv x55), (34, .bool x72)] ρ ∧ St E T I h) hs tl0 ?_ ?_
  ·refine st 1 [] (k_ite H (fun c71 H => ?_) (fun c71 H => ?_))
   ·exact st 1 [] (k_end ⟨true, I, H, ft, hs⟩)
   exact st 1 [] (k_end ⟨false, I, H, ft, hs⟩)
  clear H
  rintro ρ h ⟨x72, I, H, hf, hs⟩
  refine k_fits _ hf ?_ rfl
  subst e92
  try dsimp only at H
  cases x72
  ·rw [cond_false] at H
   refine st 2 [false] (k_out rfl ?_)
   obtain rfl := si H
   exact xE ⟨x56, x61, a57, p58, x56.length, I, rfl, trivial, hs.pk (.c d0 (.c d0 pk0))⟩
  rw [cond_true] at H
  obtain ⟨c74, H⟩ := guard_pos H
  obtain ⟨c75, H⟩ := guard_pos H
  refine st 7 [true] (k_val (elemPtr a32 (x55.toNat * 4)) (pI (e := 108) (ik := .i64) (hs.sO d2) c74 c75) ?_)
  obtain ⟨y77, g76, q78⟩ := (hs.sO d2).toSl.seg c74 c75
  obtain ⟨a79, p80, n81, rfl, q83⟩ := t_api_Pack.open_ q78
  obtain rfl := q83.2
  replace hs := hs.pR q83
  refine k_op (lG g76 ?_)
  refine k_op (nA hs [iv 0, iv 0, .bool false, .slice none 0 0] (.agg #[iv 0, iv 0, .bool false, .slice none 0 0]) ?_)
  intro b84 h hs
  refine k_op (sN0 hs [iv ((at_ t31.1 x55).Ack), iv ((at_ t31.1 x55).Num), .bool ((at_ t31.1 x55).Last), .slice a79 (((at_ t31.1 x55).Data).length) p80] (ones_of rfl) ?_)
  intro h hs
  refine st 6 [] (k_op (lB (hs.bl d3) 1 rfl ?_))
  refine st 3 [] (k_op (sB (v := iv (w64 (x61 + 1))) (hs.f d3) cw1 ?_))
  intro h hs
  refine st 6 [] (k_op (lB (hs.bl d0) 1 rfl ?_))
  refine st 1 [] (k_op (sB (v := iv (w64 (x61 + 1))) (hs.f d1) cw1 ?_))
  intro h hs
  refine st 1 [] ?_
  obtain ⟨hs0, bk0⟩ := (hs.f d3).call tk1 (.c (qL d1) (.c (qL d0) (.c (qK d2) .n)))
  have hs := hs0
  refine k_regD hs0 8 ?_
  refine aRun [0, 1, 2, 3] 7 hs.keep ?_
  refine aL 4 rfl hs.keep (ll hs0 d1 (n := 0) rfl) (nmL hs0 d1) ?_
  refine aG 5 rfl hs.keep (lls hs0 d2 0 4 rfl) (nmL hs0 d2) ?_
  refine aO1 6 rfl (nS (e := 108) hs .i t_api_Pack ([(⟨(at_ t31.1 x55).Ack, (w64 (x61 + 1)), (at_ t31.1 x55).Last, (at_ t31.1 x55).Data⟩ : api_Pack)] : List api_Pack) [iv ((at_ t31.1 x55).Ack), iv (w64 (x61 + 1)), .bool ((at_ t31.1 x55).Last), .slice a79 (((at_ t31.1 x55).Data).length) p80] 4 (.agg #[iv 0, iv 0, .bool false, .slice none 0 0]) (Reps.cons (T := t_api_Pack) (c := [iv ((at_ t31.1 x55).Ack), iv (w64 (x61 + 1)), .bool ((at_ t31.1 x55).Last), .slice a79 (((at_ t31.1 x55).Data).length) p80]) (x := (⟨(at_ t31.1 x55).Ack, (w64 (x61 + 1)), (at_ t31.1 x55).Last, (at_ t31.1 x55).Data⟩ : api_Pack)) ⟨_, _, _, rfl, (hs.g d3)⟩ (.nil : Reps t_api_Pack (Cl.G .i E.B I) h [] [])) ?_)
  intro b85 h hs
  refine ⟨hs.keep, ?_⟩
  replace hs := (hs.f d1)
  obtain ⟨l87, m88, H⟩ := bind_some H
  refine aO1 7 rfl (aO (e := 108) (bytes := 48) hs (hs.sO d1) m88 ?_)
  intro a89 p90 h hs
  refine ⟨hs.keep, ?_⟩
  replace hs := hs.pk (.c d0 (.c d0 .n))
  replace hs := bk0 hs ct2 rfl
  refine aOL 8 rfl (owp_pure (pv b0) (by kernel_rfl) ?_)
  refine aOL 9 rfl (owp_pure (pv b0) (by kernel_rfl) ?_)
  refine aOL 10 rfl (sB (v := .slice a89 l87.length p90) (hs.f d3) cw0 ?_)
  intro h hs
  refine aEnd ?_
  exact st 5 [] (k_endL ⟨k, Nat.lt_succ_self _, (w64 (x55 + 1)), l87, (w64 (x61 + 1)), a89, p90, l87.length, I, H, ft, hs.pk (.c d1 (.c d0 pk3))⟩)
def line_Line_Room.m (x0 : line_Line) (x1 : Int) : Option (Bool × line_Line) :=
  (if x1 ≥ 1 then (if x1 ≤ 8192 then ((line_Line_room.m x0 (w64 (Int.tdiv (w64 ((w64 (x1 + 64)) - 1)) 64))).bind fun t29 => (some (t29.1, (⟨t29.2.queue', t29.2.given', t29.2.await', x0.kept', x0.coming', t29.2.wait', t29.2.left', t29.2.owes'⟩ : line_Line)))) else (some (false, x0))) else (some (false, x0)))
theorem line_Line_Room.calls {B I : Gh} {h : Heap} {x0 : line_Line} {x1 : Int} {b0 : Nat} {a21 : Option Addr} {p22 : Nat} {n23 : Nat} {v25 : Value} {v26 : Value} {r : (Bool × line_Line)} (H : line_Line_Room.m x0 x1 = some r)  :
    Fc Tryz.prog 234 #[pv b0, iv x1] [rB b0 [.slice a21 n23 p22, iv x0.given', iv x0.await', v25, v26, iv x0.wait', iv x0.left', .bool x0.owes'] 239, rO t_api_Pack .i a21 p22 n23 x0.queue'] B I h (fun v L => ∃ a34 p35 n36, v = .bool r.1 ∧ L = [rB b0 [.slice a34 n36 p35, iv r.2.given', iv r.2.await', v25, v26, iv r.2.wait', iv r.2.left', .bool r.2.owes'] 239, rO t_api_Pack .i a34 p35 n36 r.2.queue']) := by
 refine fc_of fun E hs => ?_
 unfold line_Line_Room.m at H
 cases hs.nO d1
 refine fn_of (rs := [.tmp 4]) (N := 19) Tryz.func234 rfl rfl rfl rfl ?_
 refine st 7 [] (k_ite H (fun c27 H => ?_) (fun c27 H => ?_))
 rotate_left
 ·obtain rfl := si H
  exact st 14 [] (k_retQ ⟨_, by kernel_rfl, I, _, ⟨a21, p22, x0.queue'.length, rfl, rfl⟩, hs.pk (.c d0 (.c d0 .n))⟩)
 refine st 2 [] (k_ite H (fun c28 H => ?_) (fun c28 H => ?_))
 rotate_left
 ·obtain rfl := si H
  exact st 11 [] (k_retQ ⟨_, by kernel_rfl, I, _, ⟨a21, p22, x0.queue'.length, rfl, rfl⟩, hs.pk (.c d0 (.c d0 .n))⟩)
 obtain ⟨hk, bk⟩ := ((hs.f d1).f d1).call tk2 .n
 refine st 7 [] (k_call H (fun _ m => line_Line_room.calls m hk) ?_)
 rintro t29 _ h H ⟨I, _, ⟨a30, p31, n32, rfl, rfl⟩, hk⟩
 replace hs := bk hk ct2 rfl
 cases hs.nO d1
 obtain rfl := si H
 exact st 3 [] (k_retQ ⟨_, by kernel_rfl, I, _, ⟨a30, p31, t29.2.queue'.length, rfl, rfl⟩, hs.pk (.c d0 (.c d0 .n))⟩)
def side_Client_send.m (K : Nat) (x0 : side_Client) (x1 : Int) (x2 : (List Int)) : Option (Bool × side_Client) :=
  ((app [x1] x2).bind fun l46 => ((line_Line_Room.m x0.side'.line' (l46.length : Int)).bind fun t51 => bif t51.1 then ((line_Line_Send.m K (⟨t51.2.queue', t51.2.given', t51.2.await', x0.side'.line'.kept', x0.side'.line'.coming', t51.2.wait', t51.2.left', t51.2.owes'⟩ : line_Line) l46).bind fun t57 => (if t57.1 = GoErr.nil then ((app x0.sent' [l46]).bind fun l69 => (some (true, (⟨(⟨x0.side'.key', x0.side'.gate', (⟨t57.2.queue', t57.2.given', t57.2.await', x0.side'.line'.kept', x0.side'.line'.coming', t57.2.wait', t57.2.left', t57.2.owes'⟩ : line_Line), x0.side'.dir', x0.side'.seq'⟩ : side_side), x0.s', x0.todo', l69, x0.events'⟩ : side_Client)))) else (some (false, (⟨(⟨x0.side'.key', x0.side'.gate', (⟨t57.2.queue', t57.2.given', t57.2.await', x0.side'.line'.kept', x0.side'.line'.coming', t57.2.wait', t57.2.left', t57.2.owes'⟩ : line_Line), x0.side'.dir', x0.side'.seq'⟩ : side_side), x0.s', x0.todo', x0.sent', x0.events'⟩ : side_Client))))) else (some (false, (⟨(⟨x0.side'.key', x0.side'.gate', (⟨t51.2.queue', t51.2.given', t51.2.await', x0.side'.line'.kept', x0.side'.line'.coming', t51.2.wait', t51.2.left', t51.2.owes'⟩ : line_Line), x0.side'.dir', x0.side'.seq'⟩ : side_side), x0.s', x0.todo', x0.sent', x0.events'⟩ : side_Client)))))
theorem side_Client_send.calls {B I : Gh} {h : Heap} {K : Nat} {x0 : side_Client} {x1 : Int} {x2 : (List Int)} {b0 : Nat} {v21 : Value} {v22 : Value} {b23 : Nat} {a24 : Option Addr} {p25 : Nat} {n26 : Nat} {b28 : Nat} {a29 : Option Addr} {p30 : Nat} {n31 : Nat} {v33 : Value} {v34 : Value} {a35 : Option Addr} {p36 : Nat} {n37 : Nat} {v39 : Value} {a40 : Option Addr} {p41 : Nat} {n42 : Nat} {r : (Bool × side_Client)} (H : side_Client_send.m K x0 x1 x2 = some r)  :
    Fc Tryz.prog 187 #[pv b0, .int .u8 x1, .slice a40 n42 p41] [rB b0 [v21, v22, iv x0.side'.gate'.Dir, iv x0.side'.gate'.Seen.Top, .int .u64 x0.side'.gate'.Seen.Bits, .string x0.side'.gate'.Peer.Addr, iv x0.side'.gate'.Peer.Seq, pv b23, iv x0.side'.dir', iv x0.side'.seq', iv x0.s'.Rows, iv x0.s'.Cols, v33, iv x0.s'.Cursor, .bool x0.s'.Locked, .bool x0.s'.Insert, v34, .slice a35 n37 p36, v39] 78, rB b23 [.slice a24 n26 p25, iv x0.side'.line'.given', iv x0.side'.line'.await', .map (some b28), .slice a29 n31 p30, iv x0.side'.line'.wait', iv x0.side'.line'.left', .bool x0.side'.line'.owes'] 239, rO t_api_Pack .i a24 p25 n26 x0.side'.line'.queue', rM t_api_Pack b28 x0.side'.line'.kept', rO (tInt .u8) .i a29 p30 n31 x0.side'.line'.coming', rO (tSl (tInt .u8)) .i a35 p36 n37 x0.sent', rR (tInt .u8) .b a40 p41 n42 x2] B I h (fun v L => ∃ a74 p75 n76 a78 p79 n80 a82 p83 n84, v = .bool r.1 ∧ L = [rB b0 [v21, v22, iv r.2.side'.gate'.Dir, iv r.2.side'.gate'.Seen.Top, .int .u64 r.2.side'.gate'.Seen.Bits, .string r.2.side'.gate'.Peer.Addr, iv r.2.side'.gate'.Peer.Seq, pv b23, iv r.2.side'.dir', iv r.2.side'.seq', iv r.2.s'.Rows, iv r.2.s'.Cols, v33, iv r.2.s'.Cursor, .bool r.2.s'.Locked, .bool r.2.s'.Insert, v34, .slice a82 n84 p83, v39] 78, rB b23 [.slice a74 n76 p75, iv r.2.side'.line'.given', iv r.2.side'.line'.await', .map (some b28), .slice a78 n80 p79, iv r.2.side'.line'.wait', iv r.2.side'.line'.left', .bool r.2.side'.line'.owes'] 239, rO t_api_Pack .i a74 p75 n76 r.2.side'.line'.queue', rM t_api_Pack b28 r.2.side'.line'.kept', rO (tInt .u8) .i a78 p79 n80 r.2.side'.line'.coming', rO (tSl (tInt .u8)) .i a82 p83 n84 r.2.sent']) := by
 refine fc_of fun E hs => ?_
 unfold side_Client_send.m at H
 cases hs.nO d2
 cases hs.nO d4
 cases hs.nO d5
 cases hs.nR d6
 refine fn_of (rs := [.tmp 6]) (N := 41) Tryz.func187 rfl rfl rfl rfl ?_
 refine st 7 [] (k_op (nS (e := 5) hs .i (tInt .u8) ([x1] : List Int) [.int .u8 x1] 1 (.int .u8 0) (Reps.int (I := (Cl.G .i E.B I)) (k := .u8) (l := [x1])) ?_))
 intro b44 h hs
 obtain ⟨l46, m47, H⟩ := bind_some H
 refine st 1 [] (k_op (aO (e := 5) (bytes := 1) hs ((hs.sR d7).flat flat_int) m47 ?_))
 intro a48 p49 h hs
 refine st 9 [] (k_op (lB (hs.bl d1) 7 rfl ?_))
 obtain ⟨hk, bk⟩ := ((hs.f d3).f d3).call tk2 .n
 refine st 2 [] (k_call H (fun _ m => line_Line_Room.calls m hk) ?_)
 rintro t51 _ h H ⟨I, _, ⟨a52, p53, n54, rfl, rfl⟩, hk⟩
 replace hs := bk hk ct2 rfl
 cases hs.nO d1
 refine k_spl H (fun c56 H => ?_) (fun c56 H => ?_)
 rotate_left
 ·obtain rfl := si H
  exact st 17 [true] (k_retQ ⟨_, by kernel_rfl, I, _, ⟨a52, p53, t51.2.queue'.length, a29, p30, x0.side'.line'.coming'.length, a35, p36, x0.sent'.length, rfl, rfl⟩, hs.pk (.c d3 (.c d0 (.c d0 (.c d1 (.c d1 (.c d1 .n))))))⟩)
 refine st 6 [] (k_op (lB (hs.bl d3) 7 rfl ?_))
 obtain ⟨hk, bk⟩ := ((hs.f d1).f d1).call tk2 (.c (qO d0) .n)
 refine st 1 [] (k_call H (fun _ m => line_Line_Send.calls m hk) ?_)
 rintro t57 v58 h H ⟨I, _, ⟨_, a60, p61, n62, rfl, rfl⟩, hk⟩
 replace hs := bk hk ct3 rfl
 cases hs.nO d2
 rcases (hs.er d0).cases with ⟨c64, rfl⟩ | ⟨c64, t65, u66, rfl⟩
 rotate_left
 ·rw [if_neg c64] at H
  obtain rfl := si H
  exact st 8 [true] (k_retQ ⟨_, by kernel_rfl, I, _, ⟨a60, p61, t57.2.queue'.length, a29, p30, x0.side'.line'.coming'.length, a35, p36, x0.sent'.length, rfl, rfl⟩, hs.pk (.c d4 (.c d1 (.c d1 (.c d2 (.c d2 (.c d2 .n))))))⟩)
 rw [if_pos c64] at H
 refine st 11 [false] (k_op (lB (hs.bl d4) 17 rfl ?_))
 obtain ⟨I, hs⟩ := (hs.f d3).fO
 refine st 1 [] (k_op (nS (e := 31) hs .i (tSl (tInt .u8)) ([l46] : List (List Int)) [.slice a48 l46.length p49] 1 (.slice none 0 0) (Reps.cons (T := (tSl (tInt .u8))) (c := [.slice a48 l46.length p49]) (x := l46) ⟨_, _, _, rfl, (hs.g d0)⟩ (.nil : Reps (tSl (tInt .u8)) (Cl.G .i E.B I) h [] [])) ?_))
 intro b67 h hs
 replace hs := (hs.f d8)
 obtain ⟨l69, m70, H⟩ := bind_some H
 refine k_op (aO (e := 31) (bytes := 24) hs (hs.sO d1) m70 ?_)
 intro a71 p72 h hs
 refine st 2 [] (k_op (sB (v := .slice a71 l69.length p72) (hs.f d6) cw17 ?_))
 intro h hs
 obtain rfl := si H
 exact st 5 [] (k_retQ ⟨_, by kernel_rfl, I, _, ⟨a60, p61, t57.2.queue'.length, a29, p30, x0.side'.line'.coming'.length, a71, p72, l69.length, rfl, rfl⟩, hs.pk (.c d0 (.c d4 (.c d4 (.c d4 (.c d4 (.c d0 .n))))))⟩)
end Go.Proofs.YtjkbhpokboolpaaGreatDoor.Sx
