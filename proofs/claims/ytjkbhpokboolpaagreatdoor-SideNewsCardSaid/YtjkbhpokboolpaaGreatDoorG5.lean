import Derived.Test.YtjkbhpokboolpaaGreatDoorProg
import Derived.Test.YtjkbhpokboolpaaGreatDoorV4
import Derived.Test.YtjkbhpokboolpaaGreatDoorV5
import Derived.Test.YtjkbhpokboolpaaGreatDoorVF
import Derived.Test.YtjkbhpokboolpaaGreatDoorV6
import Derived.Test.YtjkbhpokboolpaaGreatDoorV7
import Derived.Test.YtjkbhpokboolpaaGreatDoorV9
import Derived.Test.YtjkbhpokboolpaaGreatDoorVD
import Derived.Test.YtjkbhpokboolpaaGreatDoorVC
import Derived.Test.YtjkbhpokboolpaaGreatDoorG0
import Derived.Test.YtjkbhpokboolpaaGreatDoorG1
import Derived.Test.YtjkbhpokboolpaaGreatDoorG2
import Derived.Test.YtjkbhpokboolpaaGreatDoorG3
import Derived.Test.YtjkbhpokboolpaaGreatDoorG4
namespace Go.Proofs.YtjkbhpokboolpaaGreatDoor.Sx
open Go
set_option maxRecDepth 100000
set_option maxHeartbeats 4000000
def bytes_Cursor_Fail.m (x0 : bytes_Cursor) (x1 : GoErr) : Option bytes_Cursor :=
  (letJ (α := Bool → Option bytes_Cursor) (fun (x33 : Bool) => (bif x33 then (some (⟨x0.b', x0.at', (GoErr.spot x0.at' x1)⟩ : bytes_Cursor)) else (some x0))) fun (j35 : Bool → Option bytes_Cursor) => (if x0.err' = GoErr.nil then (if x1 = GoErr.nil then (j35 false) else (j35 true)) else (j35 false)))
theorem bytes_Cursor_Fail.calls {B I : Gh} {h : Heap} {x0 : bytes_Cursor} {x1 : GoErr} {b0 : Nat} {v21 : Value} {v22 : Value} {v24 : Value} {r : bytes_Cursor} (H : bytes_Cursor_Fail.m x0 x1 = some r)  :
    Fc Tryz.prog 113 #[pv b0, v24] [rB b0 [v21, iv x0.at', v22] 206, rE .i v22 x0.err', rE .i v24 x1] B I h (fun v L => ∃ v43, v = .tuple #[] ∧ L = [rB b0 [v21, iv r.at', v43] 206, rE .i v43 r.err']) := by
 refine fc_of fun E hs => ?_
 unfold bytes_Cursor_Fail.m at H
 refine fn_of (rs := []) (N := 24) Tryz.func113 rfl rfl rfl rfl ?_
 refine st 1 [] ?_
 obtain ⟨j35, e42, H⟩ := letJ_some H
 refine k_join (fun ρ h => ∃ (x33 : Bool), ∃ v32 v34 I, j35 x33 = some r ∧ Fits [(0, pv b0), (1, v32), (12, .bool x33)] ρ ∧ St E [rE .i v32 x1, rE .i v34 x0.err', rB b0 [v21, iv x0.at', v34] 206] I h) ?_ ?_
 ·refine st 4 [] (k_op (lB (hs.bl d0) 2 rfl ?_))
  rcases (hs.er d1).cases with ⟨c26, rfl⟩ | ⟨c26, t27, u28, rfl⟩
  rotate_left
  ·rw [if_neg c26] at H
   exact st 6 [] (k_end ⟨false, v24, (.iface t27 u28), I, H, ft, hs.pk (.c d2 (.c d1 (.c d0 .n)))⟩)
  rw [if_pos c26] at H
  rcases (hs.er d2).cases with ⟨c29, rfl⟩ | ⟨c29, t30, u31, rfl⟩
  ·rw [if_pos c29] at H
   exact st 6 [] (k_end ⟨false, .nilIface, .nilIface, I, H, ft, hs.pk (.c d2 (.c d1 (.c d0 .n)))⟩)
  rw [if_neg c29] at H
  exact st 6 [] (k_end ⟨true, (.iface t30 u31), .nilIface, I, H, ft, hs.pk (.c d2 (.c d1 (.c d0 .n)))⟩)
 clear H
 rintro ρ h ⟨x33, v32, v34, I, H, hf, hs⟩
 refine k_fits _ hf ?_ rfl
 subst e42
 try dsimp only at H
 cases x33
 ·rw [cond_false] at H
  refine st 2 [false] (k_fin ?_)
  obtain rfl := si H
  exact ⟨_, by kernel_rfl, I, _, ⟨(v34), rfl, rfl⟩, hs.pk (.c d2 (.c d1 .n))⟩
 rw [cond_true] at H
 refine st 6 [true] (k_op (lB (hs.bl d2) 1 rfl ?_))
 rcases (hs.er d0).cases with ⟨c36, rfl⟩ | ⟨c36, t37, u38, rfl⟩
 ·refine st 2 [] (k_op (nB hs [iv x0.at', .nilIface] ?_))
  intro b39 h hs
  have q40 := (hs.er d1)
  obtain ⟨I, hs⟩ := hs.fS q40
  refine st 3 [] (k_op (sB (v := (.iface 202 (pv b39))) (hs.f d3) cw2 ?_))
  intro h hs
  refine st 1 [] (k_fin ?_)
  obtain rfl := si H
  exact ⟨_, by kernel_rfl, I, _, ⟨((.iface 202 (pv b39))), rfl, rfl⟩, hs.pk (.c d0 (.c d0 .n))⟩
 refine st 2 [] (k_op (nB hs [iv x0.at', (.iface t37 u38)] ?_))
 intro b39 h hs
 have q40 := (hs.er d1)
 obtain ⟨I, hs⟩ := hs.fS q40
 refine st 3 [] (k_op (sB (v := (.iface 202 (pv b39))) (hs.f d3) cw2 ?_))
 intro h hs
 refine st 1 [] (k_fin ?_)
 obtain rfl := si H
 exact ⟨_, by kernel_rfl, I, _, ⟨((.iface 202 (pv b39))), rfl, rfl⟩, hs.pk (.c d0 (.c d0 .n))⟩
def bytes_Cursor_Take.m (x0 : bytes_Cursor) (x1 : Int) : Option ((List Int) × bytes_Cursor) :=
  (letJ (α := (List Int) → Int → GoErr → Option ((List Int) × bytes_Cursor)) (fun (x40 : List Int) (x45 : Int) (x46 : GoErr) => (if x46 = GoErr.nil then (if 0 ≤ (w64 ((w64 (x45 + x1)) - x1)) then (if (w64 ((w64 (x45 + x1)) - x1)) ≤ (w64 (x45 + x1)) then (if (w64 (x45 + x1)) ≤ (x40.length : Int) then ((slices_Clone_bytes.m (sub x40 (w64 ((w64 (x45 + x1)) - x1)) (w64 (x45 + x1)))).bind fun t56 => (some (t56, (⟨x40, (w64 (x45 + x1)), x46⟩ : bytes_Cursor)))) else none) else none) else none) else (some ([], (⟨x40, x45, x46⟩ : bytes_Cursor))))) fun (j49 : (List Int) → Int → GoErr → Option ((List Int) × bytes_Cursor)) => (if x1 < 0 then ((bytes_Cursor_Fail.m x0 (GoErr.no 2)).bind fun t28 => (j49 x0.b' t28.at' t28.err')) else ((bytes_Cursor_Left.m x0).bind fun t31 => (if x1 > t31.1 then ((bytes_Cursor_Fail.m (⟨t31.2.b', t31.2.at', x0.err'⟩ : bytes_Cursor) (GoErr.no 2)).bind fun t37 => (j49 t31.2.b' t37.at' t37.err')) else (j49 t31.2.b' t31.2.at' x0.err')))))
theorem bytes_Cursor_Take.calls {B I : Gh} {h : Heap} {x0 : bytes_Cursor} {x1 : Int} {b0 : Nat} {a21 : Option Addr} {p22 : Nat} {n23 : Nat} {v25 : Value} {r : ((List Int) × bytes_Cursor)} (H : bytes_Cursor_Take.m x0 x1 = some r)  :
    Fc Tryz.prog 111 #[pv b0, iv x1] [rB b0 [.slice a21 n23 p22, iv x0.at', v25] 206, rR (tInt .u8) .i a21 p22 n23 x0.b', rE .i v25 x0.err'] B I h (fun v L => ∃ a62 p63 n64 a66 p67 n68 v70, v = .slice a62 n64 p63 ∧ L = [rO (tInt .u8) .i a62 p63 n64 r.1, rB b0 [.slice a66 n68 p67, iv r.2.at', v70] 206, rR (tInt .u8) .i a66 p67 n68 r.2.b', rE .i v70 r.2.err']) := by
 refine fc_of fun E hs => ?_
 unfold bytes_Cursor_Take.m at H
 cases hs.nR d1
 refine fn_of (rs := [.tmp 4]) (N := 45) Tryz.func111 rfl rfl rfl rfl ?_
 refine st 5 [] ?_
 obtain ⟨j49, e61, H⟩ := letJ_some H
 refine k_join (fun ρ h => ∃ (x40 : List Int) (x45 : Int) (x46 : GoErr), ∃ a41 p42 n43 v47 I, j49 x40 x45 x46 = some r ∧ Fits [(0, pv b0), (1, iv x1)] ρ ∧ St E [rR (tInt .u8) .i a41 p42 n43 x40, rE .i v47 x46, rB b0 [.slice a41 n43 p42, iv x45, v47] 206] I h) ?_ ?_
 ·refine st 3 [] (k_ite H (fun c27 H => ?_) (fun c27 H => ?_))
  ·obtain ⟨hk, bk⟩ := hs.call tk1 (.c (xK d1) (.c xC .n))
   refine st 11 [true] (k_call H (fun _ m => bytes_Cursor_Fail.calls m hk) ?_)
   rintro t28 _ h H ⟨I, _, ⟨v29, rfl, rfl⟩, hk⟩
   replace hs := bk hk ct2 rfl
   exact st 1 [] (k_end ⟨x0.b', t28.at', t28.err', a21, p22, x0.b'.length, v29, I, H, ft, hs.pk (.c d2 (.c d1 (.c d0 .n)))⟩)
  obtain ⟨hk, bk⟩ := hs.call tk1 (.c (qK d0) .n)
  refine st 3 [] (k_call H (fun _ m => bytes_Cursor_Left.calls m hk) ?_)
  rintro t31 _ h H ⟨I, _, ⟨a32, p33, n34, rfl, rfl⟩, hk⟩
  replace hs := bk hk ct2 rfl
  cases hs.nR d1
  refine k_ite H (fun c36 H => ?_) (fun c36 H => ?_)
  rotate_left
  ·exact st 4 [false] (k_end ⟨t31.2.b', t31.2.at', x0.err', a32, p33, t31.2.b'.length, v25, I, H, ft, hs.pk (.c d1 (.c d2 (.c d0 .n)))⟩)
  obtain ⟨hk, bk⟩ := hs.call tk1 (.c (xK d2) (.c xC .n))
  refine st 6 [true] (k_call H (fun _ m => bytes_Cursor_Fail.calls m hk) ?_)
  rintro t37 _ h H ⟨I, _, ⟨v38, rfl, rfl⟩, hk⟩
  replace hs := bk hk ct2 rfl
  exact st 1 [] (k_end ⟨t31.2.b', t37.at', t37.err', a32, p33, t31.2.b'.length, v38, I, H, ft, hs.pk (.c d2 (.c d1 (.c d0 .n)))⟩)
 clear H
 rintro ρ h ⟨x40, x45, x46, a41, p42, n43, v47, I, H, hf, hs⟩
 refine k_fits _ hf ?_ rfl
 subst e61
 try dsimp only at H
 cases hs.nR d0
 refine st 6 [] (k_op (lB (hs.bl d2) 2 rfl ?_))
 rcases (hs.er d1).cases with ⟨c50, rfl⟩ | ⟨c50, t51, u52, rfl⟩
 rotate_left
 ·rw [if_neg c50] at H
  obtain rfl := si H
  exact st 7 [true] (k_retQ ⟨_, by kernel_rfl, I, _, ⟨none, 0, 0, a41, p42, x40.length, ((.iface t51 u52)), rfl, rfl⟩, hs.pk (.f imON (.c d2 (.c d0 (.c d0 .n))))⟩)
 rw [if_pos c50] at H
 refine st 9 [false] (k_op (lB (hs.bl d2) 1 rfl ?_))
 refine st 4 [] (k_op (sB (v := iv (w64 (x45 + x1))) (hs.f d2) cw1 ?_))
 intro h hs
 refine st 2 [] ?_
 obtain ⟨hs0, bk0⟩ := hs.call tk0 (.c (qL d0) (.c (qK d1) .n))
 have hs := hs0
 refine k_regD hs0 17 ?_
 refine aRun [0, 1, 2] 14 hs.keep ?_
 refine aL 3 rfl hs.keep (ll hs0 d0 (n := 0) rfl) (nmL hs0 d0) ?_
 refine aRun [4, 5, 6] 10 hs.keep ?_
 refine aL 7 rfl hs.keep (ll hs0 d0 (n := 1) rfl) (nmL hs0 d0) ?_
 refine aRun [8, 9, 10, 11, 12] 4 hs.keep ?_
 refine aL 13 rfl hs.keep (ll hs0 d0 (n := 1) rfl) (nmL hs0 d0) ?_
 obtain ⟨c53, H⟩ := guard_pos H
 obtain ⟨c54, H⟩ := guard_pos H
 obtain ⟨c55, H⟩ := guard_pos H
 refine aP 14 (.slice (slA a41 p42 (Int.toNat (w64 ((w64 (x45 + x1)) - x1))) 1) ((sub x40 (w64 ((w64 (x45 + x1)) - x1)) (w64 (x45 + x1))).length) (p42 - Int.toNat (w64 ((w64 (x45 + x1)) - x1)))) rfl (pS (e := 5) (k1 := .i64) (k2 := .i64) (hs.sR d1) c53 c54 c55) hs.keep ?_
 obtain ⟨hk, bk⟩ := hs.call tk0 (.c (qP (qI d1) (lo := (w64 ((w64 (x45 + x1)) - x1))) (hi := (w64 (x45 + x1))) c53 c54 c55) .n)
 refine aO1 15 rfl (o_call H (fun _ m => slices_Clone_bytes.calls m hk) ?_)
 rintro t56 _ h H ⟨I, _, ⟨a57, p58, n59, rfl, rfl⟩, hk⟩
 replace hs := bk hk ct1 rfl
 cases hs.nO d0
 refine ⟨hs.keep, ?_⟩
 refine aRun [16] 0 hs.keep ?_
 replace hs := hs.pk (.c d0 .n)
 replace hs := bk0 hs ct1 rfl
 refine aEnd ?_
 obtain rfl := si H
 exact k_retQ ⟨_, by kernel_rfl, I, _, ⟨a57, p58, t56.length, a41, p42, x40.length, (.nilIface), rfl, rfl⟩, hs.pk (.c d0 (.c d0 (.c d0 (.c d0 .n))))⟩
def bytes_Cursor_Byte.m (x0 : bytes_Cursor) : Option (Int × bytes_Cursor) :=
  ((bytes_Cursor_Take.m x0 1).bind fun t27 => (if (t27.1.length : Int) = 0 then (some (0, t27.2)) else (if 0 < (t27.1.length : Int) then (some ((at_ t27.1 0), t27.2)) else none)))
theorem bytes_Cursor_Byte.calls {B I : Gh} {h : Heap} {x0 : bytes_Cursor} {b0 : Nat} {a21 : Option Addr} {p22 : Nat} {n23 : Nat} {v25 : Value} {r : (Int × bytes_Cursor)} (H : bytes_Cursor_Byte.m x0 = some r)  :
    Fc Tryz.prog 57 #[pv b0] [rB b0 [.slice a21 n23 p22, iv x0.at', v25] 206, rR (tInt .u8) .i a21 p22 n23 x0.b', rE .i v25 x0.err'] B I h (fun v L => ∃ a40 p41 n42 v44, v = .int .u8 r.1 ∧ L = [rB b0 [.slice a40 n42 p41, iv r.2.at', v44] 206, rR (tInt .u8) .i a40 p41 n42 r.2.b', rE .i v44 r.2.err']) := by
 refine fc_of fun E hs => ?_
 unfold bytes_Cursor_Byte.m at H
 cases hs.nR d1
 refine fn_of (rs := [.tmp 2]) (N := 12) Tryz.func57 rfl rfl rfl rfl ?_
 obtain ⟨hk, bk⟩ := hs.call tk1 (.c (qK d0) (.c (xK d1) .n))
 refine st 7 [] (k_call H (fun _ m => bytes_Cursor_Take.calls m hk) ?_)
 rintro t27 _ h H ⟨I, _, ⟨a28, p29, n30, a32, p33, n34, v36, rfl, rfl⟩, hk⟩
 replace hs := bk hk ct4 rfl
 cases hs.nO d0
 cases hs.nR d2
 refine st 7 [] (k_ite H (fun c38 H => ?_) (fun c38 H => ?_))
 ·obtain rfl := si H
  exact st 6 [true] (k_retQ ⟨_, by kernel_rfl, I, _, ⟨a32, p33, t27.2.b'.length, (v36), rfl, rfl⟩, hs.pk (.c d1 (.c d1 (.c d1 .n)))⟩)
 obtain ⟨c39, H⟩ := guard_pos H
 refine st 6 [false] (k_val (elemPtr a28 ((0 : Int).toNat * 1)) (pI (e := 5) (ik := .i64) (hs.sO d0) (by decide) c39) ?_)
 refine k_op (lC ((hs.sO d0).cell1 (by decide) c39) ?_)
 obtain rfl := si H
 exact st 2 [] (k_retQ ⟨_, by kernel_rfl, I, _, ⟨a32, p33, t27.2.b'.length, (v36), rfl, rfl⟩, hs.pk (.c d1 (.c d1 (.c d1 .n)))⟩)
def bytes_Cursor_Err.m (x0 : bytes_Cursor) : Option (GoErr × bytes_Cursor) :=
  (some (x0.err', x0))
theorem bytes_Cursor_Err.calls {B I : Gh} {h : Heap} {x0 : bytes_Cursor} {b0 : Nat} {v21 : Value} {v22 : Value} {r : (GoErr × bytes_Cursor)} (H : bytes_Cursor_Err.m x0 = some r)  :
    Fc Tryz.prog 59 #[pv b0] [rB b0 [v21, iv x0.at', v22] 206, rE .i v22 x0.err'] B I h (fun v L => ∃ v25 v27, v = v25 ∧ L = [rE .i v25 r.1, rB b0 [v21, iv r.2.at', v27] 206, rE .i v27 r.2.err']) := by
 refine fc_of fun E hs => ?_
 unfold bytes_Cursor_Err.m at H
 refine fn_of (rs := [.tmp 2]) (N := 7) Tryz.func59 rfl rfl rfl rfl ?_
 refine st 9 [] (k_op (lB (hs.bl d0) 2 rfl ?_))
 refine st 2 [] ?_
 replace hs := hs.dup d1 (fun _ x => x)
 obtain rfl := si H
 exact k_retQ ⟨_, by kernel_rfl, I, _, ⟨(v22), (v22), rfl, rfl⟩, hs.pk (.c d2 (.c d1 (.c d0 .n)))⟩
def six_Low.m (x0 : Int) : Option Int :=
  (some (w64 ((bAnd .u8 x0 63))))
theorem six_Low.calls {x0 : Int} {h : Heap} {r : Int} (H : six_Low.m x0 = some r)   :
    Ret Tryz.prog 171 #[.int .u8 x0] h (fun v h' => iv r = v ∧ h' = h) := by
 unfold six_Low.m at H
 refine fn_of (rs := [.tmp 2]) (N := 6) Tryz.func171 rfl rfl rfl rfl ?_
 obtain rfl := si H
 exact st 11 [] (k_retQ ⟨_, by kernel_rfl, rfl, rfl⟩)
def six_Get.m (x0 : Int) : Option (Int × GoErr) :=
  ((six_Low.m x0).bind fun t21 => ((six_at.m t21).bind fun t22 => (if t22 = x0 then (some (t21, GoErr.nil)) else (some (0, (GoErr.no 3))))))
theorem six_Get.calls {B I : Gh} {h : Heap} {x0 : Int} {r : (Int × GoErr)} (H : six_Get.m x0 = some r)  :
    Fc Tryz.prog 112 #[.int .u8 x0] [] B I h (fun v L => ∃ v24, v = .tuple #[iv r.1, v24] ∧ L = [rE .i v24 r.2]) := by
 refine fc_of fun E hs => ?_
 unfold six_Get.m at H
 refine fn_of (rs := [.tmp 2, .tmp 3]) (N := 13) Tryz.func112 rfl rfl rfl rfl ?_
 refine st 9 [] (k_call H (fun _ m => six_Low.calls m) ?_)
 rintro t21 _ _ H ⟨rfl, rfl⟩
 refine st 5 [] (k_call H (fun _ m => six_at.calls m) ?_)
 rintro t22 _ _ H ⟨rfl, rfl⟩
 refine st 1 [] (k_ite H (fun c23 H => ?_) (fun c23 H => ?_))
 ·obtain rfl := si H
  exact st 8 [true] (k_retQ ⟨_, by kernel_rfl, I, _, ⟨(.nilIface), rfl, rfl⟩, hs.pk (.f imEN .n)⟩)
 obtain rfl := si H
 exact st 9 [false] (k_retQ ⟨_, by kernel_rfl, I, _, ⟨(.iface 137 (iv 3)), rfl, rfl⟩, hs.pk (.f imEC .n)⟩)
def attr_GetWcc.m (x0 : Int) : Option (api_Wcc × GoErr) :=
  ((six_Get.m x0).bind fun t22 => (if t22.2 = GoErr.nil then (if t22.1 > 7 then (some ((⟨false, false, false⟩ : api_Wcc), (GoErr.no 3))) else (some ((⟨((bAnd .i64 t22.1 4) != 0), ((bAnd .i64 t22.1 2) != 0), ((bAnd .i64 t22.1 1) != 0)⟩ : api_Wcc), GoErr.nil))) else (some ((⟨false, false, false⟩ : api_Wcc), (GoErr.no 3)))))
theorem attr_GetWcc.calls {B I : Gh} {h : Heap} {x0 : Int} {r : (api_Wcc × GoErr)} (H : attr_GetWcc.m x0 = some r)  :
    Fc Tryz.prog 60 #[.int .u8 x0] [] B I h (fun v L => ∃ v29, v = .tuple #[.agg #[.bool r.1.Alarm, .bool r.1.Unlock, .bool r.1.Reset], v29] ∧ L = [rE .i v29 r.2]) := by
 refine fc_of fun E hs => ?_
 unfold attr_GetWcc.m at H
 refine fn_of2 (rs := [.cell 2 23, .tmp 3]) (N := 29) Tryz.func60 rfl rfl rfl rfl ?_
 refine st 2 [] (k_op (nA hs [.bool false, .bool false, .bool false] (.agg #[.bool false, .bool false, .bool false]) ?_))
 intro b21 h hs
 obtain ⟨hk, bk⟩ := hs.call tk0 .n
 refine st 5 [] (k_call H (fun _ m => six_Get.calls m hk) ?_)
 rintro t22 _ h H ⟨I, _, ⟨v23, rfl, rfl⟩, hk⟩
 replace hs := bk hk ct1 rfl
 rcases (hs.er d0).cases with ⟨c25, rfl⟩ | ⟨c25, t26, u27, rfl⟩
 rotate_left
 ·rw [if_neg c25] at H
  refine st 21 [true] (k_op (sN0 (hs.f d1) [.bool false, .bool false, .bool false] (ones_of rfl) ?_))
  intro h hs
  obtain rfl := si H
  exact st 2 [] (k_retQ ⟨[.agg #[.bool false, .bool false, .bool false], .iface 137 (iv 3)], (.cons (.agg (by kernel_rfl) (by kernel_rfl) (by kernel_rfl) ((hs.bl d0).seg_ 0 3 (Nat.le_of_ble_eq_true rfl))) (.cons (.tmp (by kernel_rfl)) .nil)), I, _, ⟨(.iface 137 (iv 3)), rfl, rfl⟩, hs.pk (.f imEC .n)⟩)
 rw [if_pos c25] at H
 refine st 13 [] (k_ite H (fun c28 H => ?_) (fun c28 H => ?_))
 ·refine st 7 [true] (k_op (sN0 (hs.f d1) [.bool false, .bool false, .bool false] (ones_of rfl) ?_))
  intro h hs
  obtain rfl := si H
  exact st 2 [] (k_retQ ⟨[.agg #[.bool false, .bool false, .bool false], .iface 137 (iv 3)], (.cons (.agg (by kernel_rfl) (by kernel_rfl) (by kernel_rfl) ((hs.bl d0).seg_ 0 3 (Nat.le_of_ble_eq_true rfl))) (.cons (.tmp (by kernel_rfl)) .nil)), I, _, ⟨(.iface 137 (iv 3)), rfl, rfl⟩, hs.pk (.f imEC .n)⟩)
 refine st 16 [false] (k_op (sN0 (hs.f d1) [.bool ((bAnd .i64 t22.1 4) != 0), .bool ((bAnd .i64 t22.1 2) != 0), .bool ((bAnd .i64 t22.1 1) != 0)] (ones_of rfl) ?_))
 intro h hs
 obtain rfl := si H
 exact st 2 [] (k_retQ ⟨[.agg #[.bool ((bAnd .i64 t22.1 4) != 0), .bool ((bAnd .i64 t22.1 2) != 0), .bool ((bAnd .i64 t22.1 1) != 0)], .nilIface], (.cons (.agg (by kernel_rfl) (by kernel_rfl) (by kernel_rfl) ((hs.bl d0).seg_ 0 3 (Nat.le_of_ble_eq_true rfl))) (.cons (.tmp (by kernel_rfl)) .nil)), I, _, ⟨(.nilIface), rfl, rfl⟩, hs.pk (.f imEN .n)⟩)
def addr_spot.m (x0 : Int) (x1 : GoErr) : Option GoErr :=
  (some (GoErr.spot x0 x1))
theorem addr_spot.calls {B I : Gh} {h : Heap} {x0 : Int} {x1 : GoErr} {v21 : Value} {r : GoErr} (H : addr_spot.m x0 x1 = some r)  :
    Fc Tryz.prog 181 #[iv x0, v21] [rE .i v21 x1] B I h (fun v L => ∃ v29, v = v29 ∧ L = [rE .i v29 r]) := by
 refine fc_of fun E hs => ?_
 unfold addr_spot.m at H
 refine fn_of (rs := [.tmp 4]) (N := 10) Tryz.func181 rfl rfl rfl rfl ?_
 rcases (hs.er d0).cases with ⟨c23, rfl⟩ | ⟨c23, t24, u25, rfl⟩
 ·refine st 9 [] (k_op (nB hs [iv x0, .nilIface] ?_))
  intro b26 h hs
  have q27 := (hs.er d1)
  obtain ⟨I, hs⟩ := hs.fS q27
  obtain rfl := si H
  exact st 3 [] (k_retQ ⟨_, by kernel_rfl, I, _, ⟨((.iface 202 (pv b26))), rfl, rfl⟩, hs.pk (.c d0 .n)⟩)
 refine st 9 [] (k_op (nB hs [iv x0, (.iface t24 u25)] ?_))
 intro b26 h hs
 have q27 := (hs.er d1)
 obtain ⟨I, hs⟩ := hs.fS q27
 obtain rfl := si H
 exact st 3 [] (k_retQ ⟨_, by kernel_rfl, I, _, ⟨((.iface 202 (pv b26))), rfl, rfl⟩, hs.pk (.c d0 .n)⟩)
def addr_short.l1.m (K : Nat) (x0 : (List Int)) : Nat → Int → Int → Option ((Int × GoErr) ⊕ (Int))
  | 0, _, _ => none
  | k + 1, x25, x26 => (letJ (α := Bool → Option ((Int × GoErr) ⊕ (Int))) (fun (x32 : Bool) => (bif x32 then (if 0 ≤ x26 then (if x26 < (x0.length : Int) then ((six_Get.m (at_ x0 x26)).bind fun t36 => (if t36.2 = GoErr.nil then (addr_short.l1.m K x0 k (bOr .i64 (shl .i64 x25 6) t36.1) (w64 (x26 + 1))) else ((addr_spot.m x26 t36.2).bind fun t42 => (some (Sum.inl (0, t42)))))) else none) else none) else (some (Sum.inr x25)))) fun (j33 : Bool → Option ((Int × GoErr) ⊕ (Int))) => (if x26 < 2 then (j33 true) else (j33 false)))
def addr_short.m (K : Nat) (x0 : (List Int)) : Option (Int × GoErr) :=
  ((addr_short.l1.m K x0 K 0 0).bind fun s27 => match s27 with | .inl q => (some q) | .inr x28 => (some (x28, GoErr.nil)))
theorem addr_short.calls {B I : Gh} {h : Heap} {K : Nat} {x0 : (List Int)} {a21 : Option Addr} {p22 : Nat} {n23 : Nat} {r : (Int × GoErr)} (H : addr_short.m K x0 = some r)  :
    Fc Tryz.prog 180 #[.slice a21 n23 p22] [rR (tInt .u8) .b a21 p22 n23 x0] B I h (fun v L => ∃ v46, v = .tuple #[iv r.1, v46] ∧ L = [rE .i v46 r.2]) := by
 refine fc_of fun E hs => ?_
 unfold addr_short.m at H
 cases hs.nR d0
 refine fn_of (rs := [.tmp 2, .tmp 3]) (N := 30) Tryz.func180 rfl rfl rfl rfl ?_
 refine st 15 [] ?_
 obtain ⟨s27, m30, HR29⟩ := bind_some H
 refine k_loop 0 (fun k' ρ h => ∃ (x25 : Int) (x26 : Int), ∃ I, addr_short.l1.m K x0 k' x25 x26 = some s27 ∧ Fits [(0, .slice a21 x0.length p22), (4, iv x25), (8, iv x26)] ρ ∧ St E [rR (tInt .u8) .b a21 p22 x0.length x0] I h) (fun ρ h => ∃ (x28 : Int), ∃ I, Sum.inr x28 = s27 ∧ Fits [(4, iv x28)] ρ ∧ St E [rR (tInt .u8) .b a21 p22 x0.length x0] I h) K ⟨0, 0, I, m30, ft, hs.pk (.c d0 .n)⟩ ?_ rfl ?_
 rotate_left
 ·rintro ρ h ⟨x28, I, rfl, hf, hs⟩
  have H := HR29
  try dsimp only at H
  refine k_fits _ hf ?_ rfl
  obtain rfl := si H
  exact st 6 [] (k_retQ ⟨_, by kernel_rfl, I, _, ⟨(.nilIface), rfl, rfl⟩, hs.pk (.f imEN .n)⟩)
 clear m30 H
 rintro k' ρ h ⟨x25, x26, I, H, hf, hs⟩
 cases k' with
 | zero => cases H
 | succ k =>
  rw [addr_short.l1.m] at H
  refine k_fits _ hf ?_ rfl
  refine st 1 [] ?_
  obtain ⟨j33, e45, H⟩ := letJ_some H
  refine k_join (fun ρ h => ∃ (x32 : Bool), ∃ I, j33 x32 = some s27 ∧ Fits [(0, .slice a21 x0.length p22), (4, iv x25), (8, iv x26), (9, .bool x32)] ρ ∧ St E [rR (tInt .u8) .b a21 p22 x0.length x0] I h) ?_ ?_
  ·refine st 1 [] (k_ite H (fun c31 H => ?_) (fun c31 H => ?_))
   ·exact st 1 [] (k_end ⟨true, I, H, ft, hs.pk (.c d0 .n)⟩)
   exact st 1 [] (k_end ⟨false, I, H, ft, hs.pk (.c d0 .n)⟩)
  clear H
  rintro ρ h ⟨x32, I, H, hf, hs⟩
  refine k_fits _ hf ?_ rfl
  subst e45
  try dsimp only at H
  cases x32
  ·rw [cond_false] at H
   refine st 2 [false] (k_out rfl ?_)
   obtain rfl := si H
   exact xE ⟨x25, I, rfl, ft, hs.pk (.c d0 .n)⟩
  rw [cond_true] at H
  obtain ⟨c34, H⟩ := guard_pos H
  obtain ⟨c35, H⟩ := guard_pos H
  refine st 14 [true] (k_val (elemPtr a21 (x26.toNat * 1)) (pI (e := 5) (ik := .i64) (hs.sR d0) c34 c35) ?_)
  refine k_op (lC ((hs.sR d0).cell1 c34 c35) ?_)
  obtain ⟨hk, bk⟩ := hs.call tk0 .n
  refine k_call H (fun _ m => six_Get.calls m hk) ?_
  rintro t36 _ h H ⟨I, _, ⟨v37, rfl, rfl⟩, hk⟩
  replace hs := bk hk ct1 rfl
  rcases (hs.er d0).cases with ⟨c39, rfl⟩ | ⟨c39, t40, u41, rfl⟩
  ·rw [if_pos c39] at H
   exact st 26 [false] (k_endL ⟨k, Nat.lt_succ_self _, (bOr .i64 (shl .i64 x25 6) t36.1), (w64 (x26 + 1)), I, H, ft, hs.pk (.c d1 .n)⟩)
  rw [if_neg c39] at H
  obtain ⟨hk, bk⟩ := hs.call tk0 (.c (xK d0) .n)
  refine st 17 [true] (k_call H (fun _ m => addr_spot.calls m hk) ?_)
  rintro t42 v43 h H ⟨I, _, ⟨_, rfl, rfl⟩, hk⟩
  replace hs := bk hk ct1 rfl
  refine st 3 [] (k_retQ (krL ?_))
  obtain rfl := si H
  obtain rfl := Option.some.inj HR29
  exact ⟨_, by kernel_rfl, I, _, ⟨(v43), rfl, rfl⟩, hs.pk (.c d0 .n)⟩
def addr_Get.m (K : Nat) (x0 : (List Int)) (x1 : Int) : Option (Int × GoErr) :=
  ((addr_sized.m x1).bind fun t25 => bif t25 then (if (x0.length : Int) < 2 then (some (0, (GoErr.no 2))) else (if 0 < (x0.length : Int) then (if 1 < (x0.length : Int) then (letJ (α := Bool → Option (Int × GoErr)) (fun (x30 : Bool) => (bif x30 then ((addr_short.m K x0).bind fun t32 => (if t32.2 = GoErr.nil then (if t32.1 ≥ x1 then (some (0, (GoErr.no 4))) else (some (t32.1, GoErr.nil))) else (some (0, t32.2)))) else (if (at_ x0 0) > 63 then ((addr_spot.m 0 (GoErr.no 3)).bind fun t40 => (some (0, t40))) else (if (bOr .i64 (shl .i64 (w64 ((at_ x0 0))) 8) (w64 ((at_ x0 1)))) ≥ x1 then (some (0, (GoErr.no 4))) else (some ((bOr .i64 (shl .i64 (w64 ((at_ x0 0))) 8) (w64 ((at_ x0 1)))), GoErr.nil)))))) fun (j31 : Bool → Option (Int × GoErr)) => ((addr_Long.m x1).bind fun t29 => bif t29 then (j31 false) else (j31 true))) else none) else none)) else (some (0, (GoErr.no 1))))
theorem addr_Get.calls {B I : Gh} {h : Heap} {K : Nat} {x0 : (List Int)} {x1 : Int} {a21 : Option Addr} {p22 : Nat} {n23 : Nat} {r : (Int × GoErr)} (H : addr_Get.m K x0 x1 = some r)  :
    Fc Tryz.prog 121 #[.slice a21 n23 p22, iv x1] [rR (tInt .u8) .b a21 p22 n23 x0] B I h (fun v L => ∃ v45, v = .tuple #[iv r.1, v45] ∧ L = [rE .i v45 r.2]) := by
 refine fc_of fun E hs => ?_
 unfold addr_Get.m at H
 cases hs.nR d0
 refine fn_of (rs := [.tmp 4, .tmp 5]) (N := 52) Tryz.func121 rfl rfl rfl rfl ?_
 refine st 9 [] (k_call H (fun _ m => addr_sized.calls m) ?_)
 rintro t25 _ _ H ⟨rfl, rfl⟩
 cases t25
 ·rw [cond_false] at H
  obtain rfl := si H
  exact st 9 [true] (k_retQ ⟨_, by kernel_rfl, I, _, ⟨(.iface 137 (iv 1)), rfl, rfl⟩, hs.pk (.f imEC .n)⟩)
 rw [cond_true] at H
 refine st 9 [false] (k_ite H (fun c26 H => ?_) (fun c26 H => ?_))
 ·obtain rfl := si H
  exact st 8 [true] (k_retQ ⟨_, by kernel_rfl, I, _, ⟨(.iface 137 (iv 2)), rfl, rfl⟩, hs.pk (.f imEC .n)⟩)
 refine st 4 [false] ?_
 obtain ⟨hs0, bk0⟩ := hs.call tk0 (.c (qB d0) .n)
 have hs := hs0
 refine k_regD hs0 11 ?_
 obtain ⟨c27, H⟩ := guard_pos H
 refine aRun [0] 10 hs.keep ?_
 refine aP 1 (elemPtr a21 ((0 : Int).toNat * 1)) rfl (pI (e := 5) (ik := .i64) (hs.sR d0) (by decide) c27) hs.keep ?_
 refine aL 2 rfl hs.keep ((hs0.sR d0).cell1 (by decide) c27) (nmR hs0 d0 (by decide) c27) ?_
 obtain ⟨c28, H⟩ := guard_pos H
 refine aRun [3, 4, 5] 5 hs.keep ?_
 refine aP 6 (elemPtr a21 ((1 : Int).toNat * 1)) rfl (pI (e := 5) (ik := .i64) (hs.sR d0) (by decide) c28) hs.keep ?_
 refine aL 7 rfl hs.keep ((hs0.sR d0).cell1 (by decide) c28) (nmR hs0 d0 (by decide) c28) ?_
 refine aRun [8, 9, 10] 0 hs.keep ?_
 replace hs := hs.pk .n
 replace hs := bk0 hs ct0 rfl
 refine aEnd ?_
 refine st 3 [] ?_
 obtain ⟨j31, e44, H⟩ := letJ_some H
 refine k_join (fun ρ h => ∃ (x30 : Bool), ∃ I, j31 x30 = some r ∧ Fits [(0, .slice a21 x0.length p22), (1, iv x1), (6, iv (bOr .i64 (shl .i64 (w64 ((at_ x0 0))) 8) (w64 ((at_ x0 1))))), (27, .bool x30)] ρ ∧ St E [rR (tInt .u8) .b a21 p22 x0.length x0] I h) ?_ ?_
 ·refine st 2 [] (k_call H (fun _ m => addr_Long.calls m) ?_)
  rintro t29 _ _ H ⟨rfl, rfl⟩
  cases t29
  ·rw [cond_false] at H
   exact st 3 [] (k_end ⟨true, I, H, ft, hs.pk (.c d0 .n)⟩)
  rw [cond_true] at H
  exact st 3 [] (k_end ⟨false, I, H, ft, hs.pk (.c d0 .n)⟩)
 clear H
 rintro ρ h ⟨x30, I, H, hf, hs⟩
 refine k_fits _ hf ?_ rfl
 subst e44
 try dsimp only at H
 cases x30
 ·rw [cond_false] at H
  refine st 4 [false] (k_val (elemPtr a21 ((0 : Int).toNat * 1)) (pI (e := 5) (ik := .i64) (hs.sR d0) (by decide) c27) ?_)
  refine k_op (lC ((hs.sR d0).cell1 (by decide) c27) ?_)
  refine k_ite H (fun c39 H => ?_) (fun c39 H => ?_)
  ·obtain ⟨hk, bk⟩ := hs.call tk0 (.c xC .n)
   refine st 6 [true] (k_call H (fun _ m => addr_spot.calls m hk) ?_)
   rintro t40 v41 h H ⟨I, _, ⟨_, rfl, rfl⟩, hk⟩
   replace hs := bk hk ct1 rfl
   obtain rfl := si H
   exact st 3 [] (k_retQ ⟨_, by kernel_rfl, I, _, ⟨(v41), rfl, rfl⟩, hs.pk (.c d0 .n)⟩)
  refine st 10 [false] (k_ite H (fun c43 H => ?_) (fun c43 H => ?_))
  ·obtain rfl := si H
   exact st 8 [true] (k_retQ ⟨_, by kernel_rfl, I, _, ⟨(.iface 137 (iv 4)), rfl, rfl⟩, hs.pk (.f imEC .n)⟩)
  obtain rfl := si H
  exact st 9 [false] (k_retQ ⟨_, by kernel_rfl, I, _, ⟨(.nilIface), rfl, rfl⟩, hs.pk (.f imEN .n)⟩)
 rw [cond_true] at H
 obtain ⟨hk, bk⟩ := hs.call tk0 (.c (qB d0) .n)
 refine st 4 [true] (k_call H (fun _ m => addr_short.calls m hk) ?_)
 rintro t32 _ h H ⟨I, _, ⟨v33, rfl, rfl⟩, hk⟩
 replace hs := bk hk ct1 rfl
 rcases (hs.er d0).cases with ⟨c35, rfl⟩ | ⟨c35, t36, u37, rfl⟩
 rotate_left
 ·rw [if_neg c35] at H
  obtain rfl := si H
  exact st 19 [true] (k_retQ ⟨_, by kernel_rfl, I, _, ⟨((.iface t36 u37)), rfl, rfl⟩, hs.pk (.c d0 .n)⟩)
 rw [if_pos c35] at H
 refine st 24 [false] (k_ite H (fun c38 H => ?_) (fun c38 H => ?_))
 ·obtain rfl := si H
  exact st 8 [true] (k_retQ ⟨_, by kernel_rfl, I, _, ⟨(.iface 137 (iv 4)), rfl, rfl⟩, hs.pk (.f imEC .n)⟩)
 obtain rfl := si H
 exact st 9 [false] (k_retQ ⟨_, by kernel_rfl, I, _, ⟨(.nilIface), rfl, rfl⟩, hs.pk (.f imEN .n)⟩)
def bytes_Cursor_Addr.m (K : Nat) (x0 : bytes_Cursor) (x1 : Int) : Option (Int × bytes_Cursor) :=
  (if x0.err' = GoErr.nil then (if 0 ≤ x0.at' then (if x0.at' ≤ (x0.b'.length : Int) then ((addr_Get.m K (sub x0.b' x0.at' (x0.b'.length : Int)) x1).bind fun t32 => ((bytes_Cursor_Fail.m x0 t32.2).bind fun t35 => (if t32.2 = GoErr.nil then (some (t32.1, (⟨x0.b', (w64 (t35.at' + 2)), t35.err'⟩ : bytes_Cursor))) else (some (t32.1, (⟨x0.b', t35.at', t35.err'⟩ : bytes_Cursor)))))) else none) else none) else (some (0, x0)))
theorem bytes_Cursor_Addr.calls {B I : Gh} {h : Heap} {K : Nat} {x0 : bytes_Cursor} {x1 : Int} {b0 : Nat} {a21 : Option Addr} {p22 : Nat} {n23 : Nat} {v25 : Value} {r : (Int × bytes_Cursor)} (H : bytes_Cursor_Addr.m K x0 x1 = some r)  :
    Fc Tryz.prog 69 #[pv b0, iv x1] [rB b0 [.slice a21 n23 p22, iv x0.at', v25] 206, rR (tInt .u8) .i a21 p22 n23 x0.b', rE .i v25 x0.err'] B I h (fun v L => ∃ a41 p42 n43 v45, v = iv r.1 ∧ L = [rB b0 [.slice a41 n43 p42, iv r.2.at', v45] 206, rR (tInt .u8) .i a41 p42 n43 r.2.b', rE .i v45 r.2.err']) := by
 refine fc_of fun E hs => ?_
 unfold bytes_Cursor_Addr.m at H
 cases hs.nR d1
 refine fn_of (rs := [.tmp 4]) (N := 39) Tryz.func69 rfl rfl rfl rfl ?_
 refine st 10 [] (k_op (lB (hs.bl d0) 2 rfl ?_))
 rcases (hs.er d2).cases with ⟨c27, rfl⟩ | ⟨c27, t28, u29, rfl⟩
 rotate_left
 ·rw [if_neg c27] at H
  obtain rfl := si H
  exact st 7 [true] (k_retQ ⟨_, by kernel_rfl, I, _, ⟨a21, p22, x0.b'.length, ((.iface t28 u29)), rfl, rfl⟩, hs.pk (.c d0 (.c d0 (.c d0 .n)))⟩)
 rw [if_pos c27] at H
 refine st 5 [false] ?_
 obtain ⟨hs0, bk0⟩ := hs.call tk0 (.c (qL d0) (.c (qK d1) .n))
 have hs := hs0
 refine k_regD hs0 16 ?_
 refine aRun [0, 1, 2] 13 hs.keep ?_
 refine aL 3 rfl hs.keep (ll hs0 d0 (n := 0) rfl) (nmL hs0 d0) ?_
 refine aRun [4, 5, 6] 9 hs.keep ?_
 refine aL 7 rfl hs.keep (ll hs0 d0 (n := 1) rfl) (nmL hs0 d0) ?_
 obtain ⟨c30, H⟩ := guard_pos H
 obtain ⟨c31, H⟩ := guard_pos H
 refine aP 8 (.slice (slA a21 p22 (Int.toNat x0.at') 1) ((sub x0.b' x0.at' (x0.b'.length : Int)).length) (p22 - Int.toNat x0.at')) rfl (pSl (e := 5) (k1 := .i64) (hs.sR d1) c30 c31 (Int.le_refl _)) hs.keep ?_
 refine aRun [9] 6 hs.keep ?_
 obtain ⟨hk, bk⟩ := hs.call tk0 (.c (qP (qI d1) (lo := x0.at') (hi := (x0.b'.length : Int)) c30 c31 (Int.le_refl _)) .n)
 refine aO1 10 rfl (o_call H (fun _ m => addr_Get.calls m hk) ?_)
 rintro t32 _ h H ⟨I, _, ⟨v33, rfl, rfl⟩, hk⟩
 replace hs := bk hk ct1 rfl
 refine ⟨hs.keep, ?_⟩
 refine aRun [11, 12, 13, 14, 15] 0 hs.keep ?_
 replace hs := hs.pk (.c d0 .n)
 replace hs := bk0 hs ct1 rfl
 refine aEnd ?_
 obtain ⟨hk, bk⟩ := (hs.f d1).call tk1 (.c (xK d2) (.c (xK d0) .n))
 refine st 4 [] (k_call H (fun _ m => bytes_Cursor_Fail.calls m hk) ?_)
 rintro t35 _ h H ⟨I, _, ⟨v36, rfl, rfl⟩, hk⟩
 replace hs := bk hk ct2 rfl
 rcases (hs.er d2).cases with ⟨c38, rfl⟩ | ⟨c38, t39, u40, rfl⟩
 ·rw [if_pos c38] at H
  refine st 12 [true] (k_op (lB (hs.bl d0) 1 rfl ?_))
  refine st 3 [] (k_op (sB (v := iv (w64 (t35.at' + 2))) hs cw1 ?_))
  intro h hs
  obtain rfl := si H
  exact st 6 [] (k_retQ ⟨_, by kernel_rfl, I, _, ⟨a21, p22, x0.b'.length, (v36), rfl, rfl⟩, hs.pk (.c d0 (.c d2 (.c d0 .n)))⟩)
 rw [if_neg c38] at H
 obtain rfl := si H
 exact st 14 [false] (k_retQ ⟨_, by kernel_rfl, I, _, ⟨a21, p22, x0.b'.length, (v36), rfl, rfl⟩, hs.pk (.c d0 (.c d2 (.c d0 .n)))⟩)
def bytes_Cursor_Chars_1.m (x0 : Int) : Option Bool :=
  ((attr_Char.m x0).bind fun t21 => (some (!t21)))
theorem bytes_Cursor_Chars_1.calls {x0 : Int} {h : Heap} {r : Bool} (H : bytes_Cursor_Chars_1.m x0 = some r)   :
    Ret Tryz.prog 173 #[.int .u8 x0] h (fun v h' => .bool r = v ∧ h' = h) := by
 unfold bytes_Cursor_Chars_1.m at H
 refine fn_of (rs := [.tmp 2]) (N := 6) Tryz.func173 rfl rfl rfl rfl ?_
 refine st 7 [] (k_call H (fun _ m => attr_Char.calls m) ?_)
 rintro t21 _ _ H ⟨rfl, rfl⟩
 obtain rfl := si H
 exact st 3 [] (k_retQ ⟨_, by kernel_rfl, rfl, rfl⟩)
def slices_IndexFunc_bytes__bytes_Cursor_Chars_1.l1.m (K : Nat) (x0 : (List Int)) : Nat → Int → Option (Int ⊕ (Unit))
  | 0, _ => none
  | k + 1, x26 => (letJ (α := Bool → Option (Int ⊕ (Unit))) (fun (x31 : Bool) => (bif x31 then (if 0 ≤ x26 then (if x26 < (x0.length : Int) then ((bytes_Cursor_Chars_1.m (at_ x0 x26)).bind fun t35 => bif t35 then (some (Sum.inl x26)) else (slices_IndexFunc_bytes__bytes_Cursor_Chars_1.l1.m K x0 k (w64 (x26 + 1)))) else none) else none) else (some (Sum.inr ())))) fun (j32 : Bool → Option (Int ⊕ (Unit))) => (if x26 < (x0.length : Int) then (j32 true) else (j32 false)))
def slices_IndexFunc_bytes__bytes_Cursor_Chars_1.m (K : Nat) (x0 : (List Int)) : Option Int :=
  ((slices_IndexFunc_bytes__bytes_Cursor_Chars_1.l1.m K x0 K 0).bind fun s27 => match s27 with | .inl q => (some q) | .inr _ => (some (-1)))
theorem slices_IndexFunc_bytes__bytes_Cursor_Chars_1.calls {G : Gh} {K : Nat} {x0 : (List Int)} {a21 : Option Addr} {p22 : Nat} {n23 : Nat} {h : Heap} {r : Int} (H : slices_IndexFunc_bytes__bytes_Cursor_Chars_1.m K x0 = some r)  (s25 : Sn (tInt .u8) G h a21 p22 n23 x0) :
    Ret Tryz.prog 172 #[.slice a21 n23 p22, .func (.func 173) #[] #[]] h (fun v h' => iv r = v ∧ h' = h) := by
 unfold slices_IndexFunc_bytes__bytes_Cursor_Chars_1.m at H
 obtain rfl := s25.len.symm
 refine fn_of (rs := [.tmp 4]) (N := 19) Tryz.func172 rfl rfl rfl rfl ?_
 refine st 12 [] ?_
 obtain ⟨s27, m29, HR28⟩ := bind_some H
 refine k_loop 0 (fun k' ρ h1 => ∃ (x26 : Int), slices_IndexFunc_bytes__bytes_Cursor_Chars_1.l1.m K x0 k' x26 = some s27 ∧ Fits [(0, .slice a21 x0.length p22), (1, .func (.func 173) #[] #[]), (7, iv (x0.length : Int)), (8, iv x26)] ρ ∧ h = h1) (fun ρ h1 => Sum.inr () = s27 ∧ Fits [] ρ ∧ h = h1) K ⟨0, m29, ft, rfl⟩ ?_ rfl ?_
 rotate_left
 ·rintro ρ h1 ⟨rfl, hf, rfl⟩
  have H := HR28
  try dsimp only at H
  refine k_fits _ hf ?_ rfl
  obtain rfl := si H
  exact st 4 [] (k_retQ ⟨_, by kernel_rfl, rfl, rfl⟩)
 clear m29 H
 rintro k' ρ h1 ⟨x26, H, hf, rfl⟩
 cases k' with
 | zero => cases H
 | succ k =>
  rw [slices_IndexFunc_bytes__bytes_Cursor_Chars_1.l1.m] at H
  refine k_fits _ hf ?_ rfl
  refine st 1 [] ?_
  obtain ⟨j32, e36, H⟩ := letJ_some H
  refine k_join (fun ρ h1 => ∃ (x31 : Bool), j32 x31 = some s27 ∧ Fits [(0, .slice a21 x0.length p22), (1, .func (.func 173) #[] #[]), (7, iv (x0.length : Int)), (8, iv x26), (9, .bool x31)] ρ ∧ h = h1) ?_ ?_
  ·refine st 1 [] (k_ite H (fun c30 H => ?_) (fun c30 H => ?_))
   ·exact st 1 [] (k_end ⟨true, H, ft, rfl⟩)
   exact st 1 [] (k_end ⟨false, H, ft, rfl⟩)
  clear H
  rintro ρ h1 ⟨x31, H, hf, rfl⟩
  refine k_fits _ hf ?_ rfl
  subst e36
  try dsimp only at H
  cases x31
  ·rw [cond_false] at H
   refine st 2 [false] (k_out rfl ?_)
   obtain rfl := si H
   exact xE ⟨rfl, trivial, rfl⟩
  rw [cond_true] at H
  obtain ⟨c33, H⟩ := guard_pos H
  obtain ⟨c34, H⟩ := guard_pos H
  refine st 15 [true] (k_val (elemPtr a21 (x26.toNat * 1)) (pI (e := 5) (ik := .i64) s25 c33 c34) ?_)
  refine k_op (lC (s25.cell1 c33 c34) ?_)
  refine k_call H (fun _ m => bytes_Cursor_Chars_1.calls m) ?_
  rintro t35 _ _ H ⟨rfl, rfl⟩
  cases t35
  ·rw [cond_false] at H
   exact st 8 [false] (k_endL ⟨k, Nat.lt_succ_self _, (w64 (x26 + 1)), H, ft, rfl⟩)
  rw [cond_true] at H
  refine st 7 [true] (k_retQ (krL ?_))
  obtain rfl := si H
  obtain rfl := Option.some.inj HR28
  exact ⟨_, by kernel_rfl, rfl, rfl⟩
def bytes_Cursor_Chars.m (K : Nat) (x0 : bytes_Cursor) : Option ((List Int) × bytes_Cursor) :=
  (if x0.err' = GoErr.nil then (if 0 ≤ x0.at' then (if x0.at' ≤ (x0.b'.length : Int) then ((slices_IndexFunc_bytes__bytes_Cursor_Chars_1.m K (sub x0.b' x0.at' (x0.b'.length : Int))).bind fun t32 => (if t32 < 0 then ((bytes_Cursor_Left.m x0).bind fun t34 => ((bytes_Cursor_Take.m (⟨t34.2.b', t34.2.at', x0.err'⟩ : bytes_Cursor) t34.1).bind fun t39 => (some (t39.1, t39.2)))) else ((bytes_Cursor_Take.m x0 t32).bind fun t50 => (some (t50.1, t50.2))))) else none) else none) else (some ([], x0)))
theorem bytes_Cursor_Chars.calls {B I : Gh} {h : Heap} {K : Nat} {x0 : bytes_Cursor} {b0 : Nat} {a21 : Option Addr} {p22 : Nat} {n23 : Nat} {v25 : Value} {r : ((List Int) × bytes_Cursor)} (H : bytes_Cursor_Chars.m K x0 = some r)  :
    Fc Tryz.prog 115 #[pv b0] [rB b0 [.slice a21 n23 p22, iv x0.at', v25] 206, rR (tInt .u8) .i a21 p22 n23 x0.b', rE .i v25 x0.err'] B I h (fun v L => ∃ a61 p62 n63 a65 p66 n67 v69, v = .slice a61 n63 p62 ∧ L = [rO (tInt .u8) .i a61 p62 n63 r.1, rB b0 [.slice a65 n67 p66, iv r.2.at', v69] 206, rR (tInt .u8) .i a65 p66 n67 r.2.b', rE .i v69 r.2.err']) := by
 refine fc_of fun E hs => ?_
 unfold bytes_Cursor_Chars.m at H
 cases hs.nR d1
 refine fn_of (rs := [.tmp 2]) (N := 26) Tryz.func115 rfl rfl rfl rfl ?_
 refine st 10 [] (k_op (lB (hs.bl d0) 2 rfl ?_))
 rcases (hs.er d2).cases with ⟨c27, rfl⟩ | ⟨c27, t28, u29, rfl⟩
 rotate_left
 ·rw [if_neg c27] at H
  obtain rfl := si H
  exact st 7 [true] (k_retQ ⟨_, by kernel_rfl, I, _, ⟨none, 0, 0, a21, p22, x0.b'.length, ((.iface t28 u29)), rfl, rfl⟩, hs.pk (.f imON (.c d0 (.c d0 (.c d0 .n))))⟩)
 rw [if_pos c27] at H
 refine st 5 [false] ?_
 obtain ⟨hs0, bk0⟩ := hs.call tk0 (.c (qL d0) (.c (qK d1) .n))
 have hs := hs0
 refine k_regD hs0 11 ?_
 refine aRun [0, 1, 2] 8 hs.keep ?_
 refine aL 3 rfl hs.keep (ll hs0 d0 (n := 0) rfl) (nmL hs0 d0) ?_
 refine aRun [4, 5, 6] 4 hs.keep ?_
 refine aL 7 rfl hs.keep (ll hs0 d0 (n := 1) rfl) (nmL hs0 d0) ?_
 obtain ⟨c30, H⟩ := guard_pos H
 obtain ⟨c31, H⟩ := guard_pos H
 refine aP 8 (.slice (slA a21 p22 (Int.toNat x0.at') 1) ((sub x0.b' x0.at' (x0.b'.length : Int)).length) (p22 - Int.toNat x0.at')) rfl (pSl (e := 5) (k1 := .i64) (hs.sR d1) c30 c31 (Int.le_refl _)) hs.keep ?_
 refine aO1 9 rfl (o_call H (fun _ m => slices_IndexFunc_bytes__bytes_Cursor_Chars_1.calls m (Sn.part (hs.sR d1) (lo := x0.at') (hi := (x0.b'.length : Int)) c30 c31 (Int.le_refl _))) ?_)
 rintro t32 _ _ H ⟨rfl, rfl⟩
 refine ⟨hs.keep, ?_⟩
 refine aRun [10] 0 hs.keep ?_
 replace hs := hs.pk .n
 replace hs := bk0 hs ct0 rfl
 refine aEnd ?_
 refine st 4 [] (k_ite H (fun c33 H => ?_) (fun c33 H => ?_))
 rotate_left
 ·obtain ⟨hk, bk⟩ := hs.call tk1 (.c (qK d0) (.c (xK d1) .n))
  refine st 7 [false] (k_call H (fun _ m => bytes_Cursor_Take.calls m hk) ?_)
  rintro t50 _ h H ⟨I, _, ⟨a51, p52, n53, a55, p56, n57, v59, rfl, rfl⟩, hk⟩
  replace hs := bk hk ct4 rfl
  cases hs.nO d0
  cases hs.nR d2
  obtain rfl := si H
  exact st 2 [] (k_retQ ⟨_, by kernel_rfl, I, _, ⟨a51, p52, t50.1.length, a55, p56, t50.2.b'.length, (v59), rfl, rfl⟩, hs.pk (.c d0 (.c d0 (.c d0 (.c d0 .n))))⟩)
 obtain ⟨hk, bk⟩ := hs.call tk1 (.c (qK d0) .n)
 refine st 4 [true] (k_call H (fun _ m => bytes_Cursor_Left.calls m hk) ?_)
 rintro t34 _ h H ⟨I, _, ⟨a35, p36, n37, rfl, rfl⟩, hk⟩
 replace hs := bk hk ct2 rfl
 cases hs.nR d1
 obtain ⟨hk, bk⟩ := hs.call tk1 (.c (qK d0) (.c (xK d2) .n))
 refine st 6 [] (k_call H (fun _ m => bytes_Cursor_Take.calls m hk) ?_)
 rintro t39 _ h H ⟨I, _, ⟨a40, p41, n42, a44, p45, n46, v48, rfl, rfl⟩, hk⟩
 replace hs := bk hk ct4 rfl
 cases hs.nO d0
 cases hs.nR d2
 obtain rfl := si H
 exact st 2 [] (k_retQ ⟨_, by kernel_rfl, I, _, ⟨a40, p41, t39.1.length, a44, p45, t39.2.b'.length, (v48), rfl, rfl⟩, hs.pk (.c d0 (.c d0 (.c d0 (.c d0 .n))))⟩)
def order_kind.l1.m (K : Nat) (x0 : Int) : Nat → Int → Option (Int ⊕ (Unit))
  | 0, _ => none
  | k + 1, x21 => (if x21 ≤ 7 then ((order_byteOf.m x21).bind fun t26 => (if t26 = x0 then (some (Sum.inl x21)) else (order_kind.l1.m K x0 k (w64 (x21 + 1))))) else (some (Sum.inr ())))
def order_kind.m (K : Nat) (x0 : Int) : Option Int :=
  ((order_kind.l1.m K x0 K 2).bind fun s22 => match s22 with | .inl q => (some q) | .inr _ => (some 0))
theorem order_kind.calls {K : Nat} {x0 : Int} {h : Heap} {r : Int} (H : order_kind.m K x0 = some r)   :
    Ret Tryz.prog 116 #[.int .u8 x0] h (fun v h' => iv r = v ∧ h' = h) := by
 unfold order_kind.m at H
 refine fn_of (rs := [.tmp 2]) (N := 13) Tryz.func116 rfl rfl rfl rfl ?_
 refine st 10 [] ?_
 obtain ⟨s22, m24, HR23⟩ := bind_some H
 refine k_loop 0 (fun k' ρ h1 => ∃ (x21 : Int), order_kind.l1.m K x0 k' x21 = some s22 ∧ Fits [(0, .int .u8 x0), (3, iv x21)] ρ ∧ h = h1) (fun ρ h1 => Sum.inr () = s22 ∧ Fits [] ρ ∧ h = h1) K ⟨2, m24, ft, rfl⟩ ?_ rfl ?_
 rotate_left
 ·rintro ρ h1 ⟨rfl, hf, rfl⟩
  have H := HR23
  try dsimp only at H
  refine k_fits _ hf ?_ rfl
  obtain rfl := si H
  exact st 4 [] (k_retQ ⟨_, by kernel_rfl, rfl, rfl⟩)
 clear m24 H
 rintro k' ρ h1 ⟨x21, H, hf, rfl⟩
 cases k' with
 | zero => cases H
 | succ k =>
  rw [order_kind.l1.m] at H
  refine k_fits _ hf ?_ rfl
  refine st 4 [] (k_ite H (fun c25 H => ?_) (fun c25 H => ?_))
  rotate_left
  ·refine st 2 [false] (k_out rfl ?_)
   obtain rfl := si H
   exact xE ⟨rfl, trivial, rfl⟩
  refine st 8 [true] (k_call H (fun _ m => order_byteOf.calls m) ?_)
  rintro t26 _ _ H ⟨rfl, rfl⟩
  refine st 1 [] (k_ite H (fun c27 H => ?_) (fun c27 H => ?_))
  ·refine st 7 [true] (k_retQ (krL ?_))
   obtain rfl := si H
   obtain rfl := Option.some.inj HR23
   exact ⟨_, by kernel_rfl, rfl, rfl⟩
  exact st 9 [false] (k_endL ⟨k, Nat.lt_succ_self _, (w64 (x21 + 1)), H, ft, rfl⟩)
def attr_Get.m (x0 : Int) : Option (api_Attr × GoErr) :=
  ((six_Get.m x0).bind fun t22 => (if t22.2 = GoErr.nil then (if (bAnd .i64 t22.1 2) = 0 then (some ((⟨((bAnd .i64 t22.1 32) != 0), ((bAnd .i64 t22.1 16) != 0), (bAnd .i64 (w64 (Int.tdiv t22.1 4)) 3), ((bAnd .i64 t22.1 1) != 0)⟩ : api_Attr), GoErr.nil)) else (some ((⟨false, false, 0, false⟩ : api_Attr), (GoErr.no 3)))) else (some ((⟨false, false, 0, false⟩ : api_Attr), (GoErr.no 3)))))
theorem attr_Get.calls {B I : Gh} {h : Heap} {x0 : Int} {r : (api_Attr × GoErr)} (H : attr_Get.m x0 = some r)  :
    Fc Tryz.prog 174 #[.int .u8 x0] [] B I h (fun v L => ∃ v29, v = .tuple #[.agg #[.bool r.1.Protected, .bool r.1.Numeric, iv r.1.Show, .bool r.1.Modified], v29] ∧ L = [rE .i v29 r.2]) := by
 refine fc_of fun E hs => ?_
 unfold attr_Get.m at H
 refine fn_of2 (rs := [.cell 2 87, .tmp 3]) (N := 33) Tryz.func174 rfl rfl rfl rfl ?_
 refine st 2 [] (k_op (nA hs [.bool false, .bool false, iv 0, .bool false] (.agg #[.bool false, .bool false, iv 0, .bool false]) ?_))
 intro b21 h hs
 obtain ⟨hk, bk⟩ := hs.call tk0 .n
 refine st 5 [] (k_call H (fun _ m => six_Get.calls m hk) ?_)
 rintro t22 _ h H ⟨I, _, ⟨v23, rfl, rfl⟩, hk⟩
 replace hs := bk hk ct1 rfl
 rcases (hs.er d0).cases with ⟨c25, rfl⟩ | ⟨c25, t26, u27, rfl⟩
 rotate_left
 ·rw [if_neg c25] at H
  refine st 22 [true] (k_op (sN0 (hs.f d1) [.bool false, .bool false, iv 0, .bool false] (ones_of rfl) ?_))
  intro h hs
  obtain rfl := si H
  exact st 2 [] (k_retQ ⟨[.agg #[.bool false, .bool false, iv 0, .bool false], .iface 137 (iv 3)], (.cons (.agg (by kernel_rfl) (by kernel_rfl) (by kernel_rfl) ((hs.bl d0).seg_ 0 4 (Nat.le_of_ble_eq_true rfl))) (.cons (.tmp (by kernel_rfl)) .nil)), I, _, ⟨(.iface 137 (iv 3)), rfl, rfl⟩, hs.pk (.f imEC .n)⟩)
 rw [if_pos c25] at H
 refine st 14 [] (k_iteN H (fun c28 H => ?_) (fun c28 H => ?_))
 ·refine st 19 [false] (k_op (sN0 (hs.f d1) [.bool ((bAnd .i64 t22.1 32) != 0), .bool ((bAnd .i64 t22.1 16) != 0), iv (bAnd .i64 (w64 (Int.tdiv t22.1 4)) 3), .bool ((bAnd .i64 t22.1 1) != 0)] (ones_of rfl) ?_))
  intro h hs
  obtain rfl := si H
  exact st 2 [] (k_retQ ⟨[.agg #[.bool ((bAnd .i64 t22.1 32) != 0), .bool ((bAnd .i64 t22.1 16) != 0), iv (bAnd .i64 (w64 (Int.tdiv t22.1 4)) 3), .bool ((bAnd .i64 t22.1 1) != 0)], .nilIface], (.cons (.agg (by kernel_rfl) (by kernel_rfl) (by kernel_rfl) ((hs.bl d0).seg_ 0 4 (Nat.le_of_ble_eq_true rfl))) (.cons (.tmp (by kernel_rfl)) .nil)), I, _, ⟨(.nilIface), rfl, rfl⟩, hs.pk (.f imEN .n)⟩)
 refine st 7 [true] (k_op (sN0 (hs.f d1) [.bool false, .bool false, iv 0, .bool false] (ones_of rfl) ?_))
 intro h hs
 obtain rfl := si H
 exact st 2 [] (k_retQ ⟨[.agg #[.bool false, .bool false, iv 0, .bool false], .iface 137 (iv 3)], (.cons (.agg (by kernel_rfl) (by kernel_rfl) (by kernel_rfl) ((hs.bl d0).seg_ 0 4 (Nat.le_of_ble_eq_true rfl))) (.cons (.tmp (by kernel_rfl)) .nil)), I, _, ⟨(.iface 137 (iv 3)), rfl, rfl⟩, hs.pk (.f imEC .n)⟩)
def order_taken.m (x0 : bytes_Cursor) (x1 : GoErr) : Option bytes_Cursor :=
  ((bytes_Cursor_Left.m x0).bind fun t29 => (if t29.1 = 0 then ((bytes_Cursor_Fail.m (⟨t29.2.b', t29.2.at', x0.err'⟩ : bytes_Cursor) (GoErr.no 2)).bind fun t35 => ((bytes_Cursor_Byte.m (⟨t29.2.b', t35.at', t35.err'⟩ : bytes_Cursor)).bind fun t38 => (some t38.2))) else ((bytes_Cursor_Fail.m (⟨t29.2.b', t29.2.at', x0.err'⟩ : bytes_Cursor) x1).bind fun t45 => ((bytes_Cursor_Byte.m (⟨t29.2.b', t45.at', t45.err'⟩ : bytes_Cursor)).bind fun t48 => (some t48.2)))))
theorem order_taken.calls {B I : Gh} {h : Heap} {x0 : bytes_Cursor} {x1 : GoErr} {b0 : Nat} {a21 : Option Addr} {p22 : Nat} {n23 : Nat} {v25 : Value} {v27 : Value} {r : bytes_Cursor} (H : order_taken.m x0 x1 = some r)  :
    Fc Tryz.prog 175 #[pv b0, v27] [rB b0 [.slice a21 n23 p22, iv x0.at', v25] 206, rR (tInt .u8) .i a21 p22 n23 x0.b', rE .i v25 x0.err', rE .i v27 x1] B I h (fun v L => ∃ a55 p56 n57 v59, v = .tuple #[] ∧ L = [rB b0 [.slice a55 n57 p56, iv r.at', v59] 206, rR (tInt .u8) .i a55 p56 n57 r.b', rE .i v59 r.err']) := by
 refine fc_of fun E hs => ?_
 unfold order_taken.m at H
 cases hs.nR d1
 refine fn_of (rs := []) (N := 13) Tryz.func175 rfl rfl rfl rfl ?_
 obtain ⟨hk, bk⟩ := hs.call tk1 (.c (qK d0) .n)
 refine st 4 [] (k_call H (fun _ m => bytes_Cursor_Left.calls m hk) ?_)
 rintro t29 _ h H ⟨I, _, ⟨a30, p31, n32, rfl, rfl⟩, hk⟩
 replace hs := bk hk ct2 rfl
 cases hs.nR d1
 refine k_ite H (fun c34 H => ?_) (fun c34 H => ?_)
 ·obtain ⟨hk, bk⟩ := hs.call tk1 (.c (xK d2) (.c xC .n))
  refine st 10 [true] (k_call H (fun _ m => bytes_Cursor_Fail.calls m hk) ?_)
  rintro t35 _ h H ⟨I, _, ⟨v36, rfl, rfl⟩, hk⟩
  replace hs := bk hk ct2 rfl
  obtain ⟨hk, bk⟩ := hs.call tk1 (.c (qK d1) (.c (xK d0) .n))
  refine st 3 [] (k_call H (fun _ m => bytes_Cursor_Byte.calls m hk) ?_)
  rintro t38 _ h H ⟨I, _, ⟨a39, p40, n41, v43, rfl, rfl⟩, hk⟩
  replace hs := bk hk ct3 rfl
  cases hs.nR d1
  refine st 1 [] (k_fin ?_)
  obtain rfl := si H
  exact ⟨_, by kernel_rfl, I, _, ⟨a39, p40, t38.2.b'.length, (v43), rfl, rfl⟩, hs.pk (.c d0 (.c d0 (.c d0 .n)))⟩
 obtain ⟨hk, bk⟩ := hs.call tk1 (.c (xK d2) (.c (xK d3) .n))
 refine st 7 [false] (k_call H (fun _ m => bytes_Cursor_Fail.calls m hk) ?_)
 rintro t45 _ h H ⟨I, _, ⟨v46, rfl, rfl⟩, hk⟩
 replace hs := bk hk ct2 rfl
 obtain ⟨hk, bk⟩ := hs.call tk1 (.c (qK d1) (.c (xK d0) .n))
 refine st 3 [] (k_call H (fun _ m => bytes_Cursor_Byte.calls m hk) ?_)
 rintro t48 _ h H ⟨I, _, ⟨a49, p50, n51, v53, rfl, rfl⟩, hk⟩
 replace hs := bk hk ct3 rfl
 cases hs.nR d1
 refine st 1 [] (k_fin ?_)
 obtain rfl := si H
 exact ⟨_, by kernel_rfl, I, _, ⟨a49, p50, t48.2.b'.length, (v53), rfl, rfl⟩, hs.pk (.c d0 (.c d0 (.c d0 .n)))⟩
def order_start.m (x0 : bytes_Cursor) : Option (api_Attr × bytes_Cursor) :=
  ((bytes_Cursor_Peek.m x0).bind fun t28 => ((attr_Get.m t28.1).bind fun t35 => ((order_taken.m t28.2.2 t35.2).bind fun t39 => (some (t35.1, t39)))))
theorem order_start.calls {B I : Gh} {h : Heap} {x0 : bytes_Cursor} {b0 : Nat} {a21 : Option Addr} {p22 : Nat} {n23 : Nat} {v25 : Value} {r : (api_Attr × bytes_Cursor)} (H : order_start.m x0 = some r)  :
    Fc Tryz.prog 117 #[pv b0] [rB b0 [.slice a21 n23 p22, iv x0.at', v25] 206, rR (tInt .u8) .i a21 p22 n23 x0.b', rE .i v25 x0.err'] B I h (fun v L => ∃ a46 p47 n48 v50, v = .agg #[.bool r.1.Protected, .bool r.1.Numeric, iv r.1.Show, .bool r.1.Modified] ∧ L = [rB b0 [.slice a46 n48 p47, iv r.2.at', v50] 206, rR (tInt .u8) .i a46 p47 n48 r.2.b', rE .i v50 r.2.err']) := by
 refine fc_of fun E hs => ?_
 unfold order_start.m at H
 cases hs.nR d1
 refine fn_of2 (rs := [.cell 2 87]) (N := 21) Tryz.func117 rfl rfl rfl rfl ?_
 refine st 2 [] (k_op (nA hs [.bool false, .bool false, iv 0, .bool false] (.agg #[.bool false, .bool false, iv 0, .bool false]) ?_))
 intro b27 h hs
 obtain ⟨hk, bk⟩ := (hs.f d1).call tk1 (.c (qK d1) (.c (xK d2) .n))
 refine st 4 [] (k_call H (fun _ m => bytes_Cursor_Peek.calls m hk) ?_)
 rintro t28 _ h H ⟨I, _, ⟨a29, p30, n31, v33, rfl, rfl⟩, hk⟩
 replace hs := bk hk ct3 rfl
 cases hs.nR d1
 obtain ⟨hk, bk⟩ := hs.call tk0 .n
 refine st 9 [] (k_call H (fun _ m => attr_Get.calls m hk) ?_)
 rintro t35 _ h H ⟨I, _, ⟨v36, rfl, rfl⟩, hk⟩
 replace hs := bk hk ct1 rfl
 refine st 3 [] (k_op (nA hs [.bool false, .bool false, iv 0, .bool false] (.agg #[.bool false, .bool false, iv 0, .bool false]) ?_))
 intro b38 h hs
 refine k_op (sN0 hs [.bool t35.1.Protected, .bool t35.1.Numeric, iv t35.1.Show, .bool t35.1.Modified] (ones_of rfl) ?_)
 intro h hs
 obtain ⟨hk, bk⟩ := (hs.f d2).call tk1 (.c (qK d2) (.c (xK d3) (.c (xK d1) .n)))
 refine st 6 [] (k_call H (fun _ m => order_taken.calls m hk) ?_)
 rintro t39 _ h H ⟨I, _, ⟨a40, p41, n42, v44, rfl, rfl⟩, hk⟩
 replace hs := bk hk ct3 rfl
 cases hs.nR d1
 refine st 3 [] (k_op (lN (hs.bl d3) 0 4 ?_))
 refine k_op (sN0 (hs.f d7) [.bool t35.1.Protected, .bool t35.1.Numeric, iv t35.1.Show, .bool t35.1.Modified] (ones_of rfl) ?_)
 intro h hs
 obtain rfl := si H
 exact st 1 [] (k_retQ ⟨[.agg #[.bool t35.1.Protected, .bool t35.1.Numeric, iv t35.1.Show, .bool t35.1.Modified]], (.cons (.agg (by kernel_rfl) (by kernel_rfl) (by kernel_rfl) ((hs.bl d0).seg_ 0 4 (Nat.le_of_ble_eq_true rfl))) .nil), I, _, ⟨a40, p41, t39.b'.length, (v44), rfl, rfl⟩, hs.pk (.c d1 (.c d1 (.c d1 .n)))⟩)
def order_char.m (x0 : bytes_Cursor) : Option (Int × bytes_Cursor) :=
  ((bytes_Cursor_Peek.m x0).bind fun t27 => ((attr_Char.m t27.1).bind fun t34 => bif t34 then ((order_taken.m t27.2.2 GoErr.nil).bind fun t35 => (some (t27.1, t35))) else ((order_taken.m t27.2.2 (GoErr.no 3)).bind fun t42 => (some (t27.1, t42)))))
theorem order_char.calls {B I : Gh} {h : Heap} {x0 : bytes_Cursor} {b0 : Nat} {a21 : Option Addr} {p22 : Nat} {n23 : Nat} {v25 : Value} {r : (Int × bytes_Cursor)} (H : order_char.m x0 = some r)  :
    Fc Tryz.prog 118 #[pv b0] [rB b0 [.slice a21 n23 p22, iv x0.at', v25] 206, rR (tInt .u8) .i a21 p22 n23 x0.b', rE .i v25 x0.err'] B I h (fun v L => ∃ a49 p50 n51 v53, v = .int .u8 r.1 ∧ L = [rB b0 [.slice a49 n51 p50, iv r.2.at', v53] 206, rR (tInt .u8) .i a49 p50 n51 r.2.b', rE .i v53 r.2.err']) := by
 refine fc_of fun E hs => ?_
 unfold order_char.m at H
 cases hs.nR d1
 refine fn_of (rs := [.tmp 2]) (N := 19) Tryz.func118 rfl rfl rfl rfl ?_
 obtain ⟨hk, bk⟩ := hs.call tk1 (.c (qK d0) (.c (xK d1) .n))
 refine st 7 [] (k_call H (fun _ m => bytes_Cursor_Peek.calls m hk) ?_)
 rintro t27 _ h H ⟨I, _, ⟨a28, p29, n30, v32, rfl, rfl⟩, hk⟩
 replace hs := bk hk ct3 rfl
 cases hs.nR d1
 refine st 14 [] (k_call H (fun _ m => attr_Char.calls m) ?_)
 rintro t34 _ _ H ⟨rfl, rfl⟩
 cases t34
 ·rw [cond_false] at H
  obtain ⟨hk, bk⟩ := hs.call tk1 (.c (qK d0) (.c (xK d1) (.c xC .n)))
  refine st 11 [true] (k_call H (fun _ m => order_taken.calls m hk) ?_)
  rintro t42 _ h H ⟨I, _, ⟨a43, p44, n45, v47, rfl, rfl⟩, hk⟩
  replace hs := bk hk ct3 rfl
  cases hs.nR d1
  obtain rfl := si H
  exact st 6 [] (k_retQ ⟨_, by kernel_rfl, I, _, ⟨a43, p44, t42.b'.length, (v47), rfl, rfl⟩, hs.pk (.c d0 (.c d0 (.c d0 .n)))⟩)
 rw [cond_true] at H
 obtain ⟨hk, bk⟩ := hs.call tk1 (.c (qK d0) (.c (xK d1) (.c xN .n)))
 refine st 8 [false] (k_call H (fun _ m => order_taken.calls m hk) ?_)
 rintro t35 _ h H ⟨I, _, ⟨a36, p37, n38, v40, rfl, rfl⟩, hk⟩
 replace hs := bk hk ct3 rfl
 cases hs.nR d1
 obtain rfl := si H
 exact st 6 [] (k_retQ ⟨_, by kernel_rfl, I, _, ⟨a36, p37, t35.b'.length, (v40), rfl, rfl⟩, hs.pk (.c d0 (.c d0 (.c d0 .n)))⟩)
def order_Get.m (K : Nat) (x0 : bytes_Cursor) (x1 : Int) : Option (api_Order × bytes_Cursor) :=
  (letJ (α := Int → Bool → (List Int) → Int → GoErr → Option (api_Order × bytes_Cursor)) (fun (x36 : Int) (x37 : Bool) (x38 : List Int) (x43 : Int) (x44 : GoErr) => (bif x37 then ((attr_Char.m x36).bind fun t49 => bif t49 then ((bytes_Cursor_Chars.m K (⟨x38, x43, x44⟩ : bytes_Cursor)).bind fun t50 => (some ((⟨1, t50.1, (⟨false, false, 0, false⟩ : api_Attr), 0, 0⟩ : api_Order), t50.2))) else ((order_kind.m K x36).bind fun t61 => (if t61 = 0 then ((bytes_Cursor_Fail.m (⟨x38, x43, x44⟩ : bytes_Cursor) (GoErr.no 5)).bind fun t64 => (some ((⟨0, [], (⟨false, false, 0, false⟩ : api_Attr), 0, 0⟩ : api_Order), (⟨x38, t64.at', t64.err'⟩ : bytes_Cursor)))) else ((bytes_Cursor_Byte.m (⟨x38, x43, x44⟩ : bytes_Cursor)).bind fun t67 => (letJ (α := (List Int) → Int → GoErr → Bool → Bool → Int → Bool → Int → Option (api_Order × bytes_Cursor)) (fun (x109 : List Int) (x114 : Int) (x115 : GoErr) (x118 : Bool) (x119 : Bool) (x120 : Int) (x121 : Bool) (x122 : Int) => (letJ (α := (List Int) → Int → GoErr → Int → Option (api_Order × bytes_Cursor)) (fun (x132 : List Int) (x137 : Int) (x138 : GoErr) (x141 : Int) => ((bytes_Cursor_Err.m (⟨x132, x137, x138⟩ : bytes_Cursor)).bind fun t143 => (if t143.1 = GoErr.nil then (some ((⟨t61, [], (⟨x118, x119, x120, x121⟩ : api_Attr), x122, x141⟩ : api_Order), (⟨x132, t143.2.at', t143.2.err'⟩ : bytes_Cursor))) else (some ((⟨0, [], (⟨false, false, 0, false⟩ : api_Attr), 0, 0⟩ : api_Order), (⟨x132, t143.2.at', t143.2.err'⟩ : bytes_Cursor)))))) fun (j142 : (List Int) → Int → GoErr → Int → Option (api_Order × bytes_Cursor)) => (if t61 = 6 then ((order_char.m (⟨x109, x114, x115⟩ : bytes_Cursor)).bind fun t125 => (j142 t125.2.b' t125.2.at' t125.2.err' t125.1)) else (j142 x109 x114 x115 0)))) fun (j123 : (List Int) → Int → GoErr → Bool → Bool → Int → Bool → Int → Option (api_Order × bytes_Cursor)) => (letJ (α := Bool → Option (api_Order × bytes_Cursor)) (fun (x75 : Bool) => (bif x75 then ((order_start.m t67.2).bind fun t77 => (j123 t77.2.b' t77.2.at' t77.2.err' t77.1.Protected t77.1.Numeric t77.1.Show t77.1.Modified 0)) else (if t61 = 6 then ((bytes_Cursor_Addr.m K t67.2 x1).bind fun t85 => (j123 t85.2.b' t85.2.at' t85.2.err' false false 0 false t85.1)) else (if t61 = 3 then ((bytes_Cursor_Addr.m K t67.2 x1).bind fun t93 => (j123 t93.2.b' t93.2.at' t93.2.err' false false 0 false t93.1)) else (if t61 = 7 then ((bytes_Cursor_Addr.m K t67.2 x1).bind fun t101 => (j123 t101.2.b' t101.2.at' t101.2.err' false false 0 false t101.1)) else (j123 t67.2.b' t67.2.at' t67.2.err' false false 0 false 0)))))) fun (j76 : Bool → Option (api_Order × bytes_Cursor)) => (if t61 = 2 then (j76 true) else (j76 false)))))))) else ((bytes_Cursor_Fail.m (⟨x38, x43, x44⟩ : bytes_Cursor) (GoErr.no 2)).bind fun t153 => (some ((⟨0, [], (⟨false, false, 0, false⟩ : api_Attr), 0, 0⟩ : api_Order), (⟨x38, t153.at', t153.err'⟩ : bytes_Cursor)))))) fun (j47 : Int → Bool → (List Int) → Int → GoErr → Option (api_Order × bytes_Cursor)) => ((bytes_Cursor_Peek.m x0).bind fun t28 => (bif t28.2.1 then (j47 t28.1 true t28.2.2.b' t28.2.2.at' t28.2.2.err') else (j47 t28.1 false t28.2.2.b' t28.2.2.at' t28.2.2.err'))))
theorem order_Get.calls {B I : Gh} {h : Heap} {K : Nat} {x0 : bytes_Cursor} {x1 : Int} {b0 : Nat} {a21 : Option Addr} {p22 : Nat} {n23 : Nat} {v25 : Value} {r : (api_Order × bytes_Cursor)} (H : order_Get.m K x0 x1 = some r)  :
    Fc Tryz.prog 61 #[pv b0, iv x1] [rB b0 [.slice a21 n23 p22, iv x0.at', v25] 206, rR (tInt .u8) .i a21 p22 n23 x0.b', rE .i v25 x0.err'] B I h (fun v L => ∃ a157 p158 n159 a161 p162 n163 v165, v = .agg #[iv r.1.Kind, .slice a157 n159 p158, .bool r.1.Attr.Protected, .bool r.1.Attr.Numeric, iv r.1.Attr.Show, .bool r.1.Attr.Modified, iv r.1.Addr, .int .u8 r.1.Char] ∧ L = [rO (tInt .u8) .i a157 p158 n159 r.1.Text, rB b0 [.slice a161 n163 p162, iv r.2.at', v165] 206, rR (tInt .u8) .i a161 p162 n163 r.2.b', rE .i v165 r.2.err']) := by
 refine fc_of fun E hs => ?_
 unfold order_Get.m at H
 cases hs.nR d1
 refine fn_of2 (rs := [.cell 4 133]) (N := 62) Tryz.func61 rfl rfl rfl rfl ?_
 refine st 2 [] (k_op (nA hs [iv 0, .slice none 0 0, .bool false, .bool false, iv 0, .bool false, iv 0, .int .u8 0] (.agg #[iv 0, .slice none 0 0, .bool false, .bool false, iv 0, .bool false, iv 0, .int .u8 0]) ?_))
 intro b27 h hs
 refine st 2 [] ?_
 obtain ⟨j47, e156, H⟩ := letJ_some H
 refine k_joinT (fun T ρ h => ∃ (x36 : Int) (x37 : Bool) (x38 : List Int) (x43 : Int) (x44 : GoErr), ∃ a39 p40 n41 v45 I, j47 x36 x37 x38 x43 x44 = some r ∧ Fits [(0, pv b0), (1, iv x1), (4, pv b27), (5, .int .u8 x36), (6, .bool x37)] ρ ∧ St E (rR (tInt .u8) .i a39 p40 n41 x38 :: rE .i v45 x44 :: rB b0 [.slice a39 n41 p40, iv x43, v45] 206 :: rB b27 [iv 0, .slice none 0 0, .bool false, .bool false, iv 0, .bool false, iv 0, .int .u8 0] 133 :: T) I h) hs tl2 ?_ ?_
 ·obtain ⟨hk, bk⟩ := (hs.f d1).call tk1 (.c (qK d1) (.c (xK d2) .n))
  refine st 2 [] (k_call H (fun _ m => bytes_Cursor_Peek.calls m hk) ?_)
  rintro t28 _ h H ⟨I, _, ⟨a29, p30, n31, v33, rfl, rfl⟩, hk⟩
  replace hs := bk hk ct3 rfl
  cases hs.nR d1
  refine st 2 [] (k_if H (fun c35 H => ?_) (fun c35 H => ?_))
  ·exact st 3 [] (k_end ⟨t28.1, true, t28.2.2.b', t28.2.2.at', t28.2.2.err', a29, p30, t28.2.2.b'.length, v33, I, H, ft, hs.pk (.c d1 (.c d1 (.c d0 (.c d0 pk0))))⟩)
  exact st 3 [] (k_end ⟨t28.1, false, t28.2.2.b', t28.2.2.at', t28.2.2.err', a29, p30, t28.2.2.b'.length, v33, I, H, ft, hs.pk (.c d1 (.c d1 (.c d0 (.c d0 pk0))))⟩)
 clear H
 rintro ρ h ⟨x36, x37, x38, x43, x44, a39, p40, n41, v45, I, H, hf, hs⟩
 refine k_fits _ hf ?_ rfl
 subst e156
 try dsimp only at H
 cases hs.nR d0
 refine st 3 [] (k_if H (fun c48 H => ?_) (fun c48 H => ?_))
 rotate_left
 ·obtain ⟨hk, bk⟩ := (hs.f d2).call tk1 (.c (xK d1) (.c xC .n))
  refine st 7 [true] (k_call H (fun _ m => bytes_Cursor_Fail.calls m hk) ?_)
  rintro t153 _ h H ⟨I, _, ⟨v154, rfl, rfl⟩, hk⟩
  replace hs := bk hk ct2 rfl
  refine st 4 [] (k_op (sN0 (hs.f d4) [iv 0, .slice none 0 0, .bool false, .bool false, iv 0, .bool false, iv 0, .int .u8 0] (ones_of rfl) ?_))
  intro h hs
  obtain rfl := si H
  exact st 1 [] (k_retQ ⟨[.agg #[iv 0, .slice none 0 0, .bool false, .bool false, iv 0, .bool false, iv 0, .int .u8 0]], (.cons (.agg (by kernel_rfl) (by kernel_rfl) (by kernel_rfl) ((hs.bl d0).seg_ 0 8 (Nat.le_of_ble_eq_true rfl))) .nil), I, _, ⟨none, 0, 0, a39, p40, x38.length, (v154), rfl, rfl⟩, hs.pk (.f imON (.c d1 (.c d2 (.c d1 .n))))⟩)
 refine st 8 [false] (k_call H (fun _ m => attr_Char.calls m) ?_)
 rintro t49 _ _ H ⟨rfl, rfl⟩
 cases t49
 rotate_left
 ·rw [cond_true] at H
  obtain ⟨hk, bk⟩ := (hs.f d2).call tk1 (.c (qK d0) (.c (xK d1) .n))
  refine st 5 [true] (k_call H (fun _ m => bytes_Cursor_Chars.calls m hk) ?_)
  rintro t50 _ h H ⟨I, _, ⟨a51, p52, n53, a55, p56, n57, v59, rfl, rfl⟩, hk⟩
  replace hs := bk hk ct4 rfl
  cases hs.nO d0
  cases hs.nR d2
  refine st 1 [] (k_op (sN0 (hs.f d6) [iv 1, .slice a51 t50.1.length p52, .bool false, .bool false, iv 0, .bool false, iv 0, .int .u8 0] (ones_of rfl) ?_))
  intro h hs
  obtain rfl := si H
  exact st 1 [] (k_retQ ⟨[.agg #[iv 1, .slice a51 t50.1.length p52, .bool false, .bool false, iv 0, .bool false, iv 0, .int .u8 0]], (.cons (.agg (by kernel_rfl) (by kernel_rfl) (by kernel_rfl) ((hs.bl d0).seg_ 0 8 (Nat.le_of_ble_eq_true rfl))) .nil), I, _, ⟨a51, p52, t50.1.length, a55, p56, t50.2.b'.length, (v59), rfl, rfl⟩, hs.pk (.c d1 (.c d1 (.c d1 (.c d1 .n))))⟩)
 rw [cond_false] at H
 refine st 6 [false] (k_call H (fun _ m => order_kind.calls m) ?_)
 rintro t61 _ _ H ⟨rfl, rfl⟩
 refine st 1 [] (k_op (nA hs [iv 0, .slice none 0 0, .bool false, .bool false, iv 0, .bool false, iv 0, .int .u8 0] (.agg #[iv 0, .slice none 0 0, .bool false, .bool false, iv 0, .bool false, iv 0, .int .u8 0]) ?_))
 intro b62 h hs
 refine k_op (sN0 hs [iv t61, .slice none 0 0, .bool false, .bool false, iv 0, .bool false, iv 0, .int .u8 0] (ones_of rfl) ?_)
 intro h hs
 refine st 5 [] (k_op (lB (hs.bl d0) 0 rfl ?_))
 refine k_ite H (fun c63 H => ?_) (fun c63 H => ?_)
 ·obtain ⟨hk, bk⟩ := (hs.f d3).call tk1 (.c (xK d2) (.c xC .n))
  refine st 6 [true] (k_call H (fun _ m => bytes_Cursor_Fail.calls m hk) ?_)
  rintro t64 _ h H ⟨I, _, ⟨v65, rfl, rfl⟩, hk⟩
  replace hs := bk hk ct2 rfl
  refine st 4 [] (k_op (sN0 (hs.f d5) [iv 0, .slice none 0 0, .bool false, .bool false, iv 0, .bool false, iv 0, .int .u8 0] (ones_of rfl) ?_))
  intro h hs
  obtain rfl := si H
  exact st 1 [] (k_retQ ⟨[.agg #[iv 0, .slice none 0 0, .bool false, .bool false, iv 0, .bool false, iv 0, .int .u8 0]], (.cons (.agg (by kernel_rfl) (by kernel_rfl) (by kernel_rfl) ((hs.bl d0).seg_ 0 8 (Nat.le_of_ble_eq_true rfl))) .nil), I, _, ⟨none, 0, 0, a39, p40, x38.length, (v65), rfl, rfl⟩, hs.pk (.f imON (.c d1 (.c d3 (.c d1 .n))))⟩)
 obtain ⟨hk, bk⟩ := (hs.f d3).call tk1 (.c (qK d1) (.c (xK d2) .n))
 refine st 6 [false] (k_call H (fun _ m => bytes_Cursor_Byte.calls m hk) ?_)
 rintro t67 _ h H ⟨I, _, ⟨a68, p69, n70, v72, rfl, rfl⟩, hk⟩
 replace hs := bk hk ct3 rfl
 cases hs.nR d1
 refine st 2 [] ?_
 obtain ⟨j123, e152, H⟩ := letJ_some H
 refine k_joinT (fun T ρ h => ∃ (x109 : List Int) (x114 : Int) (x115 : GoErr) (x118 : Bool) (x119 : Bool) (x120 : Int) (x121 : Bool) (x122 : Int), ∃ a110 p111 n112 v116 I, j123 x109 x114 x115 x118 x119 x120 x121 x122 = some r ∧ Fits [(0, pv b0), (4, pv b27), (7, pv b62)] ρ ∧ St E (rR (tInt .u8) .i a110 p111 n112 x109 :: rE .i v116 x115 :: rB b0 [.slice a110 n112 p111, iv x114, v116] 206 :: rB b62 [iv t61, .slice none 0 0, .bool x118, .bool x119, iv x120, .bool x121, iv x122, .int .u8 0] 133 :: T) I h) hs tl4 ?_ ?_
 rotate_left
 ·clear H
  rintro ρ h ⟨x109, x114, x115, x118, x119, x120, x121, x122, a110, p111, n112, v116, I, H, hf, hs⟩
  refine k_fits _ hf ?_ rfl
  subst e152
  try dsimp only at H
  cases hs.nR d0
  refine st 1 [] ?_
  obtain ⟨j142, e151, H⟩ := letJ_some H
  refine k_joinT (fun T ρ h => ∃ (x132 : List Int) (x137 : Int) (x138 : GoErr) (x141 : Int), ∃ a133 p134 n135 v139 I, j142 x132 x137 x138 x141 = some r ∧ Fits [(0, pv b0), (4, pv b27), (7, pv b62)] ρ ∧ St E (rR (tInt .u8) .i a133 p134 n135 x132 :: rE .i v139 x138 :: rB b0 [.slice a133 n135 p134, iv x137, v139] 206 :: rB b62 [iv t61, .slice none 0 0, .bool x118, .bool x119, iv x120, .bool x121, iv x122, .int .u8 x141] 133 :: T) I h) hs tl4 ?_ ?_
  ·refine st 3 [] (k_op (lB (hs.bl d3) 0 rfl ?_))
   refine k_ite H (fun c124 H => ?_) (fun c124 H => ?_)
   rotate_left
   ·exact st 3 [false] (k_end ⟨x109, x114, x115, 0, a110, p111, x109.length, v116, I, H, ft, hs.pk (.c d0 (.c d0 (.c d0 (.c d0 pk0))))⟩)
   obtain ⟨hk, bk⟩ := (hs.f d2).call tk1 (.c (qK d0) (.c (xK d1) .n))
   refine st 4 [true] (k_call H (fun _ m => order_char.calls m hk) ?_)
   rintro t125 _ h H ⟨I, _, ⟨a126, p127, n128, v130, rfl, rfl⟩, hk⟩
   replace hs := bk hk ct3 rfl
   cases hs.nR d1
   refine st 1 [] (k_op (sB (v := .int .u8 t125.1) (hs.f d5) cw7 ?_))
   intro h hs
   exact st 1 [] (k_end ⟨t125.2.b', t125.2.at', t125.2.err', t125.1, a126, p127, t125.2.b'.length, v130, I, H, ft, hs.pk (.c d2 (.c d2 (.c d1 (.c d0 pk2))))⟩)
  clear H
  rintro ρ h ⟨x132, x137, x138, x141, a133, p134, n135, v139, I, H, hf, hs⟩
  refine k_fits _ hf ?_ rfl
  subst e151
  try dsimp only at H
  cases hs.nR d0
  obtain ⟨hk, bk⟩ := (hs.f d2).call tk1 (.c (xK d1) .n)
  refine st 4 [] (k_call H (fun _ m => bytes_Cursor_Err.calls m hk) ?_)
  rintro t143 v144 h H ⟨I, _, ⟨_, v146, rfl, rfl⟩, hk⟩
  replace hs := bk hk ct3 rfl
  rcases (hs.er d0).cases with ⟨c148, rfl⟩ | ⟨c148, t149, u150, rfl⟩
  ·rw [if_pos c148] at H
   refine st 6 [false] (k_op (lN (hs.bl d5) 0 8 ?_))
   refine k_op (sN0 (hs.f d8) [iv t61, .slice none 0 0, .bool x118, .bool x119, iv x120, .bool x121, iv x122, .int .u8 x141] (ones_of rfl) ?_)
   intro h hs
   obtain rfl := si H
   exact st 1 [] (k_retQ ⟨[.agg #[iv t61, .slice none 0 0, .bool x118, .bool x119, iv x120, .bool x121, iv x122, .int .u8 x141]], (.cons (.agg (by kernel_rfl) (by kernel_rfl) (by kernel_rfl) ((hs.bl d0).seg_ 0 8 (Nat.le_of_ble_eq_true rfl))) .nil), I, _, ⟨none, 0, 0, a133, p134, x132.length, (v146), rfl, rfl⟩, hs.pk (.f imON (.c d2 (.c d3 (.c d2 .n))))⟩)
  rw [if_neg c148] at H
  refine st 6 [true] (k_op (sN0 (hs.f d8) [iv 0, .slice none 0 0, .bool false, .bool false, iv 0, .bool false, iv 0, .int .u8 0] (ones_of rfl) ?_))
  intro h hs
  obtain rfl := si H
  exact st 1 [] (k_retQ ⟨[.agg #[iv 0, .slice none 0 0, .bool false, .bool false, iv 0, .bool false, iv 0, .int .u8 0]], (.cons (.agg (by kernel_rfl) (by kernel_rfl) (by kernel_rfl) ((hs.bl d0).seg_ 0 8 (Nat.le_of_ble_eq_true rfl))) .nil), I, _, ⟨none, 0, 0, a133, p134, x132.length, (v146), rfl, rfl⟩, hs.pk (.f imON (.c d2 (.c d3 (.c d2 .n))))⟩)
 refine st 3 [] (k_op (lB (hs.bl d3) 0 rfl ?_))
 refine st 3 [] ?_
 obtain ⟨j76, e108, H⟩ := letJ_some H
 refine k_joinT (fun T ρ h => ∃ (x75 : Bool), ∃ I, j76 x75 = some r ∧ Fits [(0, pv b0), (1, iv x1), (4, pv b27), (7, pv b62), (37, iv t61), (38, .bool x75)] ρ ∧ St E T I h) hs tl0 ?_ ?_
 ·refine st 1 [] (k_ite H (fun c74 H => ?_) (fun c74 H => ?_))
  ·exact st 2 [] (k_end ⟨true, I, H, ft, hs⟩)
  exact st 2 [] (k_end ⟨false, I, H, ft, hs⟩)
 clear H
 rintro ρ h ⟨x75, I, H, hf, hs⟩
 refine k_fits _ hf ?_ rfl
 subst e108
 try dsimp only at H
 cases x75
 rotate_left
 ·rw [cond_true] at H
  obtain ⟨hk, bk⟩ := hs.call tk1 (.c (qK d0) (.c (xK d1) .n))
  refine st 3 [true] (k_call H (fun _ m => order_start.calls m hk) ?_)
  rintro t77 _ h H ⟨I, _, ⟨a78, p79, n80, v82, rfl, rfl⟩, hk⟩
  replace hs := bk hk ct3 rfl
  cases hs.nR d1
  refine st 1 [] (k_op (sN (hs.f d5) 2 [.bool t77.1.Protected, .bool t77.1.Numeric, iv t77.1.Show, .bool t77.1.Modified] [iv t61, .slice none 0 0, .bool t77.1.Protected, .bool t77.1.Numeric, iv t77.1.Show, .bool t77.1.Modified, iv 0, .int .u8 0] (ones_of rfl) ?_))
  intro h hs
  exact st 2 [] (k_end ⟨t77.2.b', t77.2.at', t77.2.err', t77.1.Protected, t77.1.Numeric, t77.1.Show, t77.1.Modified, 0, a78, p79, t77.2.b'.length, v82, I, H, ft, hs.pk (.c d2 (.c d2 (.c d1 (.c d0 pk2))))⟩)
 rw [cond_false] at H
 refine st 4 [false] (k_ite H (fun c84 H => ?_) (fun c84 H => ?_))
 ·obtain ⟨hk, bk⟩ := hs.call tk1 (.c (qK d0) (.c (xK d1) .n))
  refine st 8 [true, true] (k_call H (fun _ m => bytes_Cursor_Addr.calls m hk) ?_)
  rintro t85 _ h H ⟨I, _, ⟨a86, p87, n88, v90, rfl, rfl⟩, hk⟩
  replace hs := bk hk ct3 rfl
  cases hs.nR d1
  refine st 1 [] (k_op (sB (v := iv t85.1) (hs.f d5) cw6 ?_))
  intro h hs
  exact st 2 [] (k_end ⟨t85.2.b', t85.2.at', t85.2.err', false, false, 0, false, t85.1, a86, p87, t85.2.b'.length, v90, I, H, ft, hs.pk (.c d2 (.c d2 (.c d1 (.c d0 pk2))))⟩)
 refine st 5 [false] (k_ite H (fun c92 H => ?_) (fun c92 H => ?_))
 ·obtain ⟨hk, bk⟩ := hs.call tk1 (.c (qK d0) (.c (xK d1) .n))
  refine st 8 [true, true] (k_call H (fun _ m => bytes_Cursor_Addr.calls m hk) ?_)
  rintro t93 _ h H ⟨I, _, ⟨a94, p95, n96, v98, rfl, rfl⟩, hk⟩
  replace hs := bk hk ct3 rfl
  cases hs.nR d1
  refine st 1 [] (k_op (sB (v := iv t93.1) (hs.f d5) cw6 ?_))
  intro h hs
  exact st 2 [] (k_end ⟨t93.2.b', t93.2.at', t93.2.err', false, false, 0, false, t93.1, a94, p95, t93.2.b'.length, v98, I, H, ft, hs.pk (.c d2 (.c d2 (.c d1 (.c d0 pk2))))⟩)
 refine st 4 [false] (k_ite H (fun c100 H => ?_) (fun c100 H => ?_))
 rotate_left
 ·exact st 5 [false] (k_end ⟨t67.2.b', t67.2.at', t67.2.err', false, false, 0, false, 0, a68, p69, t67.2.b'.length, v72, I, H, ft, hs.pk (.c d1 (.c d1 (.c d0 (.c d0 pk0))))⟩)
 obtain ⟨hk, bk⟩ := hs.call tk1 (.c (qK d0) (.c (xK d1) .n))
 refine st 6 [true] (k_call H (fun _ m => bytes_Cursor_Addr.calls m hk) ?_)
 rintro t101 _ h H ⟨I, _, ⟨a102, p103, n104, v106, rfl, rfl⟩, hk⟩
 replace hs := bk hk ct3 rfl
 cases hs.nR d1
 refine st 1 [] (k_op (sB (v := iv t101.1) (hs.f d5) cw6 ?_))
 intro h hs
 exact st 2 [] (k_end ⟨t101.2.b', t101.2.at', t101.2.err', false, false, 0, false, t101.1, a102, p103, t101.2.b'.length, v106, I, H, ft, hs.pk (.c d2 (.c d2 (.c d1 (.c d0 pk2))))⟩)
def stream_Read.l1.m (K : Nat) (x1 : Int) : Nat → (List Int) → Int → GoErr → (List api_Order) → Option ((List Int) × Int × GoErr × (List api_Order))
  | 0, _, _, _, _ => none
  | k + 1, x107, x112, x113, x116 => ((bytes_Cursor_Left.m (⟨x107, x112, x113⟩ : bytes_Cursor)).bind fun t138 => (if t138.1 > 0 then ((bytes_Cursor_Err.m (⟨t138.2.b', t138.2.at', x113⟩ : bytes_Cursor)).bind fun t144 => (if t144.1 = GoErr.nil then ((order_Get.m K (⟨t138.2.b', t144.2.at', t144.2.err'⟩ : bytes_Cursor) x1).bind fun t152 => ((app x116 [t152.1]).bind fun l165 => (stream_Read.l1.m K x1 k t152.2.b' t152.2.at' t152.2.err' l165))) else (some ((t138.2.b', t144.2.at', t144.2.err', x116))))) else (some ((t138.2.b', t138.2.at', x113, x116)))))
def stream_Read.m (K : Nat) (x0 : (List Int)) (x1 : Int) : Option (api_Out × GoErr) :=
  (if (x0.length : Int) > 8192 then ((stream_spot.m 8192 (GoErr.no 6)).bind fun t27 => (some ((⟨0, (⟨false, false, false⟩ : api_Wcc), []⟩ : api_Out), t27))) else ((bytes_New.m x0).bind fun t30 => (letJ (α := Int → Bool → (List Int) → Int → GoErr → Option (api_Out × GoErr)) (fun (x46 : Int) (x47 : Bool) (x48 : List Int) (x53 : Int) (x54 : GoErr) => (letJ (α := Bool → Option (api_Out × GoErr)) (fun (x59 : Bool) => (bif x59 then ((stream_spot.m 0 (GoErr.no 2)).bind fun t61 => (some ((⟨0, (⟨false, false, false⟩ : api_Wcc), []⟩ : api_Out), t61))) else ((stream_known.m (w64 (x46))).bind fun t64 => bif t64 then ((bytes_Cursor_Byte.m (⟨x48, x53, x54⟩ : bytes_Cursor)).bind fun t65 => (letJ (α := Bool → Option (api_Out × GoErr)) (fun (x74 : Bool) => (bif x74 then ((bytes_Cursor_Left.m t65.2).bind fun t76 => (if t76.1 > 0 then ((stream_spot.m 1 (GoErr.no 1)).bind fun t82 => (some ((⟨0, (⟨false, false, false⟩ : api_Wcc), []⟩ : api_Out), t82))) else (some ((⟨(w64 (t65.1)), (⟨false, false, false⟩ : api_Wcc), []⟩ : api_Out), GoErr.nil)))) else ((bytes_Cursor_Byte.m t65.2).bind fun t85 => ((bytes_Cursor_Err.m t85.2).bind fun t92 => (if t92.1 = GoErr.nil then ((attr_GetWcc.m t85.1).bind fun t100 => (if t100.2 = GoErr.nil then (letJ (α := (List Int) → Int → GoErr → (List api_Order) → Option (api_Out × GoErr)) (fun (x153 : List Int) (x158 : Int) (x159 : GoErr) (x162 : List api_Order) => ((bytes_Cursor_Err.m (⟨x153, x158, x159⟩ : bytes_Cursor)).bind fun t168 => (if t168.1 = GoErr.nil then (some ((⟨(w64 (t65.1)), t100.1, x162⟩ : api_Out), GoErr.nil)) else ((bytes_Cursor_Err.m (⟨x153, t168.2.at', t168.2.err'⟩ : bytes_Cursor)).bind fun t176 => (some ((⟨0, (⟨false, false, false⟩ : api_Wcc), []⟩ : api_Out), t176.1)))))) fun (j167 : (List Int) → Int → GoErr → (List api_Order) → Option (api_Out × GoErr)) => ((stream_Read.l1.m K x1 K t85.2.b' t92.2.at' t92.2.err' []).bind fun (x122, x127, x128, x131) => (j167 x122 x127 x128 x131))) else ((stream_spot.m 1 t100.2).bind fun t182 => (some ((⟨0, (⟨false, false, false⟩ : api_Wcc), []⟩ : api_Out), t182))))) else ((bytes_Cursor_Err.m (⟨t85.2.b', t92.2.at', t92.2.err'⟩ : bytes_Cursor)).bind fun t185 => (some ((⟨0, (⟨false, false, false⟩ : api_Wcc), []⟩ : api_Out), t185.1)))))))) fun (j75 : Bool → Option (api_Out × GoErr)) => ((stream_Writes.m (w64 (t65.1))).bind fun t73 => bif t73 then (j75 false) else (j75 true)))) else ((stream_spot.m 0 (GoErr.no 5)).bind fun t191 => (some ((⟨0, (⟨false, false, false⟩ : api_Wcc), []⟩ : api_Out), t191)))))) fun (j60 : Bool → Option (api_Out × GoErr)) => (bif x47 then (j60 false) else (j60 true)))) fun (j57 : Int → Bool → (List Int) → Int → GoErr → Option (api_Out × GoErr)) => ((bytes_Cursor_Peek.m t30).bind fun t38 => (bif t38.2.1 then (j57 t38.1 true t38.2.2.b' t38.2.2.at' t38.2.2.err') else (j57 t38.1 false t38.2.2.b' t38.2.2.at' t38.2.2.err'))))))
theorem stream_Read.calls {B I : Gh} {h : Heap} {K : Nat} {x0 : (List Int)} {x1 : Int} {a21 : Option Addr} {p22 : Nat} {n23 : Nat} {r : (api_Out × GoErr)} (H : stream_Read.m K x0 x1 = some r)  :
    Fc Tryz.prog 15 #[.slice a21 n23 p22, iv x1] [rR (tInt .u8) .b a21 p22 n23 x0] B I h (fun v L => ∃ a196 p197 n198 v200, v = .tuple #[.agg #[iv r.1.Cmd, .bool r.1.Wcc.Alarm, .bool r.1.Wcc.Unlock, .bool r.1.Wcc.Reset, .slice a196 n198 p197], v200] ∧ L = [rO t_api_Order .i a196 p197 n198 r.1.Orders, rE .i v200 r.2]) := by
 refine fc_of fun E hs => ?_
 unfold stream_Read.m at H
 cases hs.nR d0
 refine fn_of2 (rs := [.cell 4 26, .tmp 5]) (N := 98) Tryz.func15 rfl rfl rfl rfl ?_
 refine st 2 [] (k_op (nA hs [iv 0, .bool false, .bool false, .bool false, .slice none 0 0] (.agg #[iv 0, .bool false, .bool false, .bool false, .slice none 0 0]) ?_))
 intro b25 h hs
 refine st 7 [] (k_ite H (fun c26 H => ?_) (fun c26 H => ?_))
 ·obtain ⟨hk, bk⟩ := hs.call tk0 (.c xC .n)
  refine st 6 [true] (k_call H (fun _ m => stream_spot.calls m hk) ?_)
  rintro t27 v28 h H ⟨I, _, ⟨_, rfl, rfl⟩, hk⟩
  replace hs := bk hk ct1 rfl
  refine k_op (sN0 (hs.f d1) [iv 0, .bool false, .bool false, .bool false, .slice none 0 0] (ones_of rfl) ?_)
  intro h hs
  obtain rfl := si H
  exact st 2 [] (k_retQ ⟨[.agg #[iv 0, .bool false, .bool false, .bool false, .slice none 0 0], v28], (.cons (.agg (by kernel_rfl) (by kernel_rfl) (by kernel_rfl) ((hs.bl d0).seg_ 0 5 (Nat.le_of_ble_eq_true rfl))) (.cons (.tmp (by kernel_rfl)) .nil)), I, _, ⟨none, 0, 0, (v28), rfl, rfl⟩, hs.pk (.f imON (.c d1 .n))⟩)
 obtain ⟨hk, bk⟩ := hs.call tk0 (.c (qB d1) .n)
 refine st 6 [false] (k_call H (fun _ m => bytes_New.calls m hk) ?_)
 rintro t30 _ h H ⟨I, _, ⟨b31, a32, p33, n34, v36, rfl, rfl⟩, hk⟩
 replace hs := bk hk ct3 rfl
 cases hs.nR d1
 refine st 3 [] ?_
 obtain ⟨j57, e195, H⟩ := letJ_some H
 refine k_joinT (fun T ρ h => ∃ (x46 : Int) (x47 : Bool) (x48 : List Int) (x53 : Int) (x54 : GoErr), ∃ a49 p50 n51 v55 I, j57 x46 x47 x48 x53 x54 = some r ∧ Fits [(1, iv x1), (4, pv b25), (6, pv b31), (7, .int .u8 x46), (8, .bool x47)] ρ ∧ St E (rR (tInt .u8) .i a49 p50 n51 x48 :: rE .i v55 x54 :: rB b31 [.slice a49 n51 p50, iv x53, v55] 206 :: T) I h) hs tl1 ?_ ?_
 ·obtain ⟨hk, bk⟩ := hs.call tk1 (.c (qK d0) (.c (xK d1) .n))
  refine st 2 [] (k_call H (fun _ m => bytes_Cursor_Peek.calls m hk) ?_)
  rintro t38 _ h H ⟨I, _, ⟨a39, p40, n41, v43, rfl, rfl⟩, hk⟩
  replace hs := bk hk ct3 rfl
  cases hs.nR d1
  refine st 2 [] (k_if H (fun c45 H => ?_) (fun c45 H => ?_))
  ·exact st 3 [] (k_end ⟨t38.1, true, t38.2.2.b', t38.2.2.at', t38.2.2.err', a39, p40, t38.2.2.b'.length, v43, I, H, ft, hs.pk (.c d1 (.c d1 (.c d0 pk0)))⟩)
  exact st 3 [] (k_end ⟨t38.1, false, t38.2.2.b', t38.2.2.at', t38.2.2.err', a39, p40, t38.2.2.b'.length, v43, I, H, ft, hs.pk (.c d1 (.c d1 (.c d0 pk0)))⟩)
 clear H
 rintro ρ h ⟨x46, x47, x48, x53, x54, a49, p50, n51, v55, I, H, hf, hs⟩
 refine k_fits _ hf ?_ rfl
 subst e195
 try dsimp only at H
 cases hs.nR d0
 refine st 3 [] ?_
 obtain ⟨j60, e194, H⟩ := letJ_some H
 refine k_joinT (fun T ρ h => ∃ (x59 : Bool), ∃ I, j60 x59 = some r ∧ Fits [(1, iv x1), (4, pv b25), (6, pv b31), (7, .int .u8 x46), (26, .bool x59)] ρ ∧ St E T I h) hs tl0 ?_ ?_
 ·refine st 1 [] (k_if H (fun c58 H => ?_) (fun c58 H => ?_))
  ·exact st 3 [] (k_end ⟨false, I, H, ft, hs⟩)
  exact st 3 [] (k_end ⟨true, I, H, ft, hs⟩)
 clear H
 rintro ρ h ⟨x59, I, H, hf, hs⟩
 refine k_fits _ hf ?_ rfl
 subst e194
 try dsimp only at H
 cases x59
 rotate_left
 ·rw [cond_true] at H
  obtain ⟨hk, bk⟩ := hs.call tk0 (.c xC .n)
  refine st 5 [true] (k_call H (fun _ m => stream_spot.calls m hk) ?_)
  rintro t61 v62 h H ⟨I, _, ⟨_, rfl, rfl⟩, hk⟩
  replace hs := bk hk ct1 rfl
  refine k_op (sN0 (hs.f d6) [iv 0, .bool false, .bool false, .bool false, .slice none 0 0] (ones_of rfl) ?_)
  intro h hs
  obtain rfl := si H
  exact st 2 [] (k_retQ ⟨[.agg #[iv 0, .bool false, .bool false, .bool false, .slice none 0 0], v62], (.cons (.agg (by kernel_rfl) (by kernel_rfl) (by kernel_rfl) ((hs.bl d0).seg_ 0 5 (Nat.le_of_ble_eq_true rfl))) (.cons (.tmp (by kernel_rfl)) .nil)), I, _, ⟨none, 0, 0, (v62), rfl, rfl⟩, hs.pk (.f imON (.c d1 .n))⟩)
 rw [cond_false] at H
 refine st 5 [false] (k_call H (fun _ m => stream_known.calls m) ?_)
 rintro t64 _ _ H ⟨rfl, rfl⟩
 cases t64
 ·rw [cond_false] at H
  obtain ⟨hk, bk⟩ := hs.call tk0 (.c xC .n)
  refine st 8 [true] (k_call H (fun _ m => stream_spot.calls m hk) ?_)
  rintro t191 v192 h H ⟨I, _, ⟨_, rfl, rfl⟩, hk⟩
  replace hs := bk hk ct1 rfl
  refine k_op (sN0 (hs.f d6) [iv 0, .bool false, .bool false, .bool false, .slice none 0 0] (ones_of rfl) ?_)
  intro h hs
  obtain rfl := si H
  exact st 2 [] (k_retQ ⟨[.agg #[iv 0, .bool false, .bool false, .bool false, .slice none 0 0], v192], (.cons (.agg (by kernel_rfl) (by kernel_rfl) (by kernel_rfl) ((hs.bl d0).seg_ 0 5 (Nat.le_of_ble_eq_true rfl))) (.cons (.tmp (by kernel_rfl)) .nil)), I, _, ⟨none, 0, 0, (v192), rfl, rfl⟩, hs.pk (.f imON (.c d1 .n))⟩)
 rw [cond_true] at H
 obtain ⟨hk, bk⟩ := (hs.f d2).call tk1 (.c (qK d0) (.c (xK d1) .n))
 refine st 9 [false] (k_call H (fun _ m => bytes_Cursor_Byte.calls m hk) ?_)
 rintro t65 _ h H ⟨I, _, ⟨a66, p67, n68, v70, rfl, rfl⟩, hk⟩
 replace hs := bk hk ct3 rfl
 cases hs.nR d1
 refine st 2 [] (k_op (nA hs [iv 0, .bool false, .bool false, .bool false, .slice none 0 0] (.agg #[iv 0, .bool false, .bool false, .bool false, .slice none 0 0]) ?_))
 intro b72 h hs
 refine k_op (sN0 hs [iv (w64 (t65.1)), .bool false, .bool false, .bool false, .slice none 0 0] (ones_of rfl) ?_)
 intro h hs
 refine st 3 [] ?_
 obtain ⟨j75, e190, H⟩ := letJ_some H
 refine k_joinT (fun T ρ h => ∃ (x74 : Bool), ∃ I, j75 x74 = some r ∧ Fits [(1, iv x1), (4, pv b25), (6, pv b31), (9, pv b72), (47, .bool x74)] ρ ∧ St E T I h) hs tl0 ?_ ?_
 ·refine st 2 [] (k_op (lB (hs.bl d0) 0 rfl ?_))
  refine k_call H (fun _ m => stream_Writes.calls m) ?_
  rintro t73 _ _ H ⟨rfl, rfl⟩
  cases t73
  ·rw [cond_false] at H
   exact st 2 [] (k_end ⟨true, I, H, ft, hs⟩)
  rw [cond_true] at H
  exact st 2 [] (k_end ⟨false, I, H, ft, hs⟩)
 clear H
 rintro ρ h ⟨x74, I, H, hf, hs⟩
 refine k_fits _ hf ?_ rfl
 subst e190
 try dsimp only at H
 cases x74
 rotate_left
 ·rw [cond_true] at H
  obtain ⟨hk, bk⟩ := (hs.f d1).call tk1 (.c (qK d1) .n)
  refine st 5 [true] (k_call H (fun _ m => bytes_Cursor_Left.calls m hk) ?_)
  rintro t76 _ h H ⟨I, _, ⟨a77, p78, n79, rfl, rfl⟩, hk⟩
  replace hs := bk hk ct2 rfl
  cases hs.nR d1
  refine k_ite H (fun c81 H => ?_) (fun c81 H => ?_)
  ·obtain ⟨hk, bk⟩ := hs.call tk0 (.c xC .n)
   refine st 6 [true] (k_call H (fun _ m => stream_spot.calls m hk) ?_)
   rintro t82 v83 h H ⟨I, _, ⟨_, rfl, rfl⟩, hk⟩
   replace hs := bk hk ct1 rfl
   refine k_op (sN0 (hs.f d10) [iv 0, .bool false, .bool false, .bool false, .slice none 0 0] (ones_of rfl) ?_)
   intro h hs
   obtain rfl := si H
   exact st 2 [] (k_retQ ⟨[.agg #[iv 0, .bool false, .bool false, .bool false, .slice none 0 0], v83], (.cons (.agg (by kernel_rfl) (by kernel_rfl) (by kernel_rfl) ((hs.bl d0).seg_ 0 5 (Nat.le_of_ble_eq_true rfl))) (.cons (.tmp (by kernel_rfl)) .nil)), I, _, ⟨none, 0, 0, (v83), rfl, rfl⟩, hs.pk (.f imON (.c d1 .n))⟩)
  refine st 5 [false] (k_op (lN (hs.bl d2) 0 5 ?_))
  refine k_op (sN0 (hs.f d9) [iv (w64 (t65.1)), .bool false, .bool false, .bool false, .slice none 0 0] (ones_of rfl) ?_)
  intro h hs
  obtain rfl := si H
  exact st 2 [] (k_retQ ⟨[.agg #[iv (w64 (t65.1)), .bool false, .bool false, .bool false, .slice none 0 0], .nilIface], (.cons (.agg (by kernel_rfl) (by kernel_rfl) (by kernel_rfl) ((hs.bl d0).seg_ 0 5 (Nat.le_of_ble_eq_true rfl))) (.cons (.tmp (by kernel_rfl)) .nil)), I, _, ⟨none, 0, 0, (.nilIface), rfl, rfl⟩, hs.pk (.f imON (.f imEN .n))⟩)
 rw [cond_false] at H
 obtain ⟨hk, bk⟩ := (hs.f d1).call tk1 (.c (qK d1) (.c (xK d2) .n))
 refine st 5 [false] (k_call H (fun _ m => bytes_Cursor_Byte.calls m hk) ?_)
 rintro t85 _ h H ⟨I, _, ⟨a86, p87, n88, v90, rfl, rfl⟩, hk⟩
 replace hs := bk hk ct3 rfl
 cases hs.nR d1
 obtain ⟨hk, bk⟩ := hs.call tk1 (.c (xK d1) .n)
 refine st 6 [] (k_call H (fun _ m => bytes_Cursor_Err.calls m hk) ?_)
 rintro t92 v93 h H ⟨I, _, ⟨_, v95, rfl, rfl⟩, hk⟩
 replace hs := bk hk ct3 rfl
 rcases (hs.er d0).cases with ⟨c97, rfl⟩ | ⟨c97, t98, u99, rfl⟩
 rotate_left
 ·rw [if_neg c97] at H
  obtain ⟨hk, bk⟩ := (hs.f d1).call tk1 (.c (xK d1) .n)
  refine st 7 [true] (k_call H (fun _ m => bytes_Cursor_Err.calls m hk) ?_)
  rintro t185 v186 h H ⟨I, _, ⟨_, v188, rfl, rfl⟩, hk⟩
  replace hs := bk hk ct3 rfl
  refine k_op (sN0 (hs.f d14) [iv 0, .bool false, .bool false, .bool false, .slice none 0 0] (ones_of rfl) ?_)
  intro h hs
  obtain rfl := si H
  exact st 2 [] (k_retQ ⟨[.agg #[iv 0, .bool false, .bool false, .bool false, .slice none 0 0], v186], (.cons (.agg (by kernel_rfl) (by kernel_rfl) (by kernel_rfl) ((hs.bl d0).seg_ 0 5 (Nat.le_of_ble_eq_true rfl))) (.cons (.tmp (by kernel_rfl)) .nil)), I, _, ⟨none, 0, 0, (v186), rfl, rfl⟩, hs.pk (.f imON (.c d1 .n))⟩)
 rw [if_pos c97] at H
 obtain ⟨hk, bk⟩ := hs.call tk0 .n
 refine st 7 [false] (k_call H (fun _ m => attr_GetWcc.calls m hk) ?_)
 rintro t100 _ h H ⟨I, _, ⟨v101, rfl, rfl⟩, hk⟩
 replace hs := bk hk ct1 rfl
 refine st 3 [] (k_op (nA hs [.bool false, .bool false, .bool false] (.agg #[.bool false, .bool false, .bool false]) ?_))
 intro b103 h hs
 refine k_op (sN0 hs [.bool t100.1.Alarm, .bool t100.1.Unlock, .bool t100.1.Reset] (ones_of rfl) ?_)
 intro h hs
 rcases (hs.er d1).cases with ⟨c104, rfl⟩ | ⟨c104, t105, u106, rfl⟩
 rotate_left
 ·rw [if_neg c104] at H
  obtain ⟨hk, bk⟩ := hs.call tk0 (.c (xK d1) .n)
  refine st 13 [true] (k_call H (fun _ m => stream_spot.calls m hk) ?_)
  rintro t182 v183 h H ⟨I, _, ⟨_, rfl, rfl⟩, hk⟩
  replace hs := bk hk ct1 rfl
  refine k_op (sN0 (hs.f d15) [iv 0, .bool false, .bool false, .bool false, .slice none 0 0] (ones_of rfl) ?_)
  intro h hs
  obtain rfl := si H
  exact st 2 [] (k_retQ ⟨[.agg #[iv 0, .bool false, .bool false, .bool false, .slice none 0 0], v183], (.cons (.agg (by kernel_rfl) (by kernel_rfl) (by kernel_rfl) ((hs.bl d0).seg_ 0 5 (Nat.le_of_ble_eq_true rfl))) (.cons (.tmp (by kernel_rfl)) .nil)), I, _, ⟨none, 0, 0, (v183), rfl, rfl⟩, hs.pk (.f imON (.c d1 .n))⟩)
 rw [if_pos c104] at H
 refine st 12 [false] (k_op (lN (hs.bl d0) 0 3 ?_))
 refine st 1 [] (k_op (sN (hs.f d7) 1 [.bool t100.1.Alarm, .bool t100.1.Unlock, .bool t100.1.Reset] [iv (w64 (t65.1)), .bool t100.1.Alarm, .bool t100.1.Unlock, .bool t100.1.Reset, .slice none 0 0] (ones_of rfl) ?_))
 intro h hs
 refine st 2 [] ?_
 obtain ⟨j167, e181, H⟩ := letJ_some H
 refine k_joinT (fun T ρ h => ∃ (x153 : List Int) (x158 : Int) (x159 : GoErr) (x162 : List api_Order), ∃ a154 p155 n156 v160 a163 p164 n165 I, j167 x153 x158 x159 x162 = some r ∧ Fits [(4, pv b25), (6, pv b31), (9, pv b72)] ρ ∧ St E (rR (tInt .u8) .i a154 p155 n156 x153 :: rE .i v160 x159 :: rB b31 [.slice a154 n156 p155, iv x158, v160] 206 :: rO t_api_Order .i a163 p164 n165 x162 :: rB b72 [iv (w64 (t65.1)), .bool t100.1.Alarm, .bool t100.1.Unlock, .bool t100.1.Reset, .slice a163 n165 p164] 26 :: T) I h) hs tl7 ?_ ?_
 rotate_left
 ·clear H
  rintro ρ h ⟨x153, x158, x159, x162, a154, p155, n156, v160, a163, p164, n165, I, H, hf, hs⟩
  refine k_fits _ hf ?_ rfl
  subst e181
  try dsimp only at H
  cases hs.nR d0
  cases hs.nO d3
  obtain ⟨hk, bk⟩ := (hs.f d2).call tk1 (.c (xK d1) .n)
  refine st 4 [] (k_call H (fun _ m => bytes_Cursor_Err.calls m hk) ?_)
  rintro t168 v169 h H ⟨I, _, ⟨_, v171, rfl, rfl⟩, hk⟩
  replace hs := bk hk ct3 rfl
  rcases (hs.er d0).cases with ⟨c173, rfl⟩ | ⟨c173, t174, u175, rfl⟩
  ·rw [if_pos c173] at H
   refine st 6 [false] (k_op (lN (hs.bl d6) 0 5 ?_))
   refine k_op (sN0 (hs.f d14) [iv (w64 (t65.1)), .bool t100.1.Alarm, .bool t100.1.Unlock, .bool t100.1.Reset, .slice a163 x162.length p164] (ones_of rfl) ?_)
   intro h hs
   obtain rfl := si H
   exact st 2 [] (k_retQ ⟨[.agg #[iv (w64 (t65.1)), .bool t100.1.Alarm, .bool t100.1.Unlock, .bool t100.1.Reset, .slice a163 x162.length p164], .nilIface], (.cons (.agg (by kernel_rfl) (by kernel_rfl) (by kernel_rfl) ((hs.bl d0).seg_ 0 5 (Nat.le_of_ble_eq_true rfl))) (.cons (.tmp (by kernel_rfl)) .nil)), I, _, ⟨a163, p164, x162.length, (.nilIface), rfl, rfl⟩, hs.pk (.c d6 (.f imEN .n))⟩)
  rw [if_neg c173] at H
  obtain ⟨hk, bk⟩ := (hs.f d1).call tk1 (.c (xK d1) .n)
  refine st 7 [true] (k_call H (fun _ m => bytes_Cursor_Err.calls m hk) ?_)
  rintro t176 v177 h H ⟨I, _, ⟨_, v179, rfl, rfl⟩, hk⟩
  replace hs := bk hk ct3 rfl
  refine k_op (sN0 (hs.f d16) [iv 0, .bool false, .bool false, .bool false, .slice none 0 0] (ones_of rfl) ?_)
  intro h hs
  obtain rfl := si H
  exact st 2 [] (k_retQ ⟨[.agg #[iv 0, .bool false, .bool false, .bool false, .slice none 0 0], v177], (.cons (.agg (by kernel_rfl) (by kernel_rfl) (by kernel_rfl) ((hs.bl d0).seg_ 0 5 (Nat.le_of_ble_eq_true rfl))) (.cons (.tmp (by kernel_rfl)) .nil)), I, _, ⟨none, 0, 0, (v177), rfl, rfl⟩, hs.pk (.f imON (.c d1 .n))⟩)
 refine st 1 [] ?_
 obtain ⟨s121, m137, HR136⟩ := bind_some H
 refine k_loopT hs tl7 1 (fun T k' ρ h => ∃ (x107 : List Int) (x112 : Int) (x113 : GoErr) (x116 : List api_Order), ∃ a108 p109 n110 v114 a117 p118 n119 I, stream_Read.l1.m K x1 k' x107 x112 x113 x116 = some s121 ∧ Fits [(1, iv x1), (4, pv b25), (6, pv b31), (9, pv b72)] ρ ∧ St E (rR (tInt .u8) .i a108 p109 n110 x107 :: rE .i v114 x113 :: rB b31 [.slice a108 n110 p109, iv x112, v114] 206 :: rO t_api_Order .i a117 p118 n119 x116 :: rB b72 [iv (w64 (t65.1)), .bool t100.1.Alarm, .bool t100.1.Unlock, .bool t100.1.Reset, .slice a117 n119 p118] 26 :: T) I h) (fun T ρ h => ∃ (x122 : List Int) (x127 : Int) (x128 : GoErr) (x131 : List api_Order), ∃ a123 p124 n125 v129 a132 p133 n134 I, (x122, x127, x128, x131) = s121 ∧ Fits [(4, pv b25), (6, pv b31), (9, pv b72)] ρ ∧ St E (rR (tInt .u8) .i a123 p124 n125 x122 :: rE .i v129 x128 :: rB b31 [.slice a123 n125 p124, iv x127, v129] 206 :: rO t_api_Order .i a132 p133 n134 x131 :: rB b72 [iv (w64 (t65.1)), .bool t100.1.Alarm, .bool t100.1.Unlock, .bool t100.1.Reset, .slice a132 n134 p133] 26 :: T) I h) K ⟨t85.2.b', t92.2.at', t92.2.err', [], a86, p87, t85.2.b'.length, v95, none, 0, 0, I, m137, ft, hs.pk (.c d6 (.c d5 (.c d4 (.f imON (.c d0 pk3)))))⟩ ?_ rfl ?_
 rotate_left
 ·rintro ρ h ⟨x122, x127, x128, x131, a123, p124, n125, v129, a132, p133, n134, I, rfl, hf, hs⟩
  have H := HR136
  try dsimp only at H
  cases hs.nR d0
  cases hs.nO d3
  exact k_end ⟨x122, x127, x128, x131, a123, p124, x122.length, v129, a132, p133, x131.length, I, H, ⟨fits_get hf (by kernel_rfl), fits_get hf (by kernel_rfl), fits_get hf (by kernel_rfl), trivial⟩, hs.pk (.c d0 (.c d0 (.c d0 (.c d0 (.c d0 pk0)))))⟩
 clear HR136 m137 H
 rintro k' ρ h ⟨x107, x112, x113, x116, a108, p109, n110, v114, a117, p118, n119, I, H, hf, hs⟩
 cases k' with
 | zero => cases H
 | succ k =>
  rw [stream_Read.l1.m] at H
  refine k_fits _ hf ?_ rfl
  cases hs.nR d0
  cases hs.nO d3
  obtain ⟨hk, bk⟩ := (hs.f d2).call tk1 (.c (qK d0) .n)
  refine st 4 [] (k_call H (fun _ m => bytes_Cursor_Left.calls m hk) ?_)
  rintro t138 _ h H ⟨I, _, ⟨a139, p140, n141, rfl, rfl⟩, hk⟩
  replace hs := bk hk ct2 rfl
  cases hs.nR d1
  refine k_ite H (fun c143 H => ?_) (fun c143 H => ?_)
  rotate_left
  ·refine st 7 [false] (k_out rfl ?_)
   obtain rfl := si H
   exact xE ⟨t138.2.b', t138.2.at', x113, x116, a139, p140, t138.2.b'.length, v114, a117, p118, x116.length, I, rfl, ft, hs.pk (.c d1 (.c d2 (.c d0 (.c d1 (.c d1 pk1)))))⟩
  obtain ⟨hk, bk⟩ := hs.call tk1 (.c (xK d2) .n)
  refine st 2 [] (k_call H (fun _ m => bytes_Cursor_Err.calls m hk) ?_)
  rintro t144 v145 h H ⟨I, _, ⟨_, v147, rfl, rfl⟩, hk⟩
  replace hs := bk hk ct3 rfl
  rcases (hs.er d0).cases with ⟨c149, rfl⟩ | ⟨c149, t150, u151, rfl⟩
  rotate_left
  ·rw [if_neg c149] at H
   refine st 4 [false] (k_out rfl ?_)
   obtain rfl := si H
   exact xE ⟨t138.2.b', t144.2.at', t144.2.err', x116, a139, p140, t138.2.b'.length, v147, a117, p118, x116.length, I, rfl, ft, hs.pk (.c d3 (.c d2 (.c d1 (.c d3 (.c d3 pk3)))))⟩
  rw [if_pos c149] at H
  refine st 6 [true] ?_
  obtain ⟨hs0, bk0⟩ := (hs.f d1).call tk1 (.c (qL d6) (.c (qK d2) (.c (xK d1) .n)))
  have hs := hs0
  refine k_regD hs0 6 ?_
  refine aRun [0] 8 hs.keep ?_
  refine aL 1 rfl hs.keep (ll hs0 d1 (n := 4) rfl) (nmL hs0 d1) ?_
  refine aRun [2, 3] 5 hs.keep ?_
  obtain ⟨hk, bk⟩ := hs.call tk1 (.c (qK d1) (.c (xK d2) .n))
  refine aO1 4 rfl (o_call H (fun _ m => order_Get.calls m hk) ?_)
  rintro t152 _ h H ⟨I, _, ⟨a153, p154, n155, a157, p158, n159, v161, rfl, rfl⟩, hk⟩
  replace hs := bk hk ct4 rfl
  cases hs.nO d0
  cases hs.nR d2
  refine ⟨hs.keep, ?_⟩
  obtain ⟨I, hs⟩ := hs.fO
  refine aO1 5 rfl (nS (e := 133) hs .i t_api_Order ([t152.1] : List api_Order) [iv t152.1.Kind, .slice a153 t152.1.Text.length p154, .bool t152.1.Attr.Protected, .bool t152.1.Attr.Numeric, iv t152.1.Attr.Show, .bool t152.1.Attr.Modified, iv t152.1.Addr, .int .u8 t152.1.Char] 8 (.agg #[iv 0, .slice none 0 0, .bool false, .bool false, iv 0, .bool false, iv 0, .int .u8 0]) (Reps.cons (T := t_api_Order) (c := [iv t152.1.Kind, .slice a153 t152.1.Text.length p154, .bool t152.1.Attr.Protected, .bool t152.1.Attr.Numeric, iv t152.1.Attr.Show, .bool t152.1.Attr.Modified, iv t152.1.Addr, .int .u8 t152.1.Char]) (x := t152.1) ⟨_, _, _, rfl, (hs.g d0)⟩ (.nil : Reps t_api_Order (Cl.G .i E.B I) h [] [])) ?_)
  intro b163 h hs
  refine ⟨hs.keep, ?_⟩
  replace hs := hs.pk (.c d0 (.c d0 (.c d0 (.c d0 (.c d0 .n)))))
  replace hs := bk0 hs ct5 rfl
  replace hs := (hs.f d10)
  obtain ⟨l165, m166, H⟩ := bind_some H
  refine aOL 6 rfl (aO (e := 133) (bytes := 72) hs (hs.sO d1) m166 ?_)
  intro a167 p168 h hs
  refine aOL 7 rfl (owp_pure (.pointer (some ⟨b72, 4, none⟩)) (by kernel_rfl) ?_)
  refine aOL 8 rfl (sB (v := .slice a167 l165.length p168) (hs.f d11) cw4 ?_)
  intro h hs
  refine aEnd ?_
  exact st 1 [] (k_endL ⟨k, Nat.lt_succ_self _, t152.2.b', t152.2.at', t152.2.err', l165, a157, p158, t152.2.b'.length, v161, a167, p168, l165.length, I, H, ft, hs.pk (.c d5 (.c d5 (.c d4 (.c d1 (.c d0 pk7)))))⟩)
end Go.Proofs.YtjkbhpokboolpaaGreatDoor.Sx
