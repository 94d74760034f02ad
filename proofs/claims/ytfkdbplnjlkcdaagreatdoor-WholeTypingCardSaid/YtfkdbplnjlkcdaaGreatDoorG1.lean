import Derived.Test.YtfkdbplnjlkcdaaGreatDoorProg
import Derived.Test.YtfkdbplnjlkcdaaGreatDoorV4
import Derived.Test.YtfkdbplnjlkcdaaGreatDoorV5
import Derived.Test.YtfkdbplnjlkcdaaGreatDoorVF
import Derived.Test.YtfkdbplnjlkcdaaGreatDoorV6
import Derived.Test.YtfkdbplnjlkcdaaGreatDoorV7
import Derived.Test.YtfkdbplnjlkcdaaGreatDoorV9
import Derived.Test.YtfkdbplnjlkcdaaGreatDoorVD
import Derived.Test.YtfkdbplnjlkcdaaGreatDoorVC
import Derived.Test.YtfkdbplnjlkcdaaGreatDoorG0
namespace Go.Proofs.YtfkdbplnjlkcdaaGreatDoor.Sx
open Go
set_option maxRecDepth 100000
set_option maxHeartbeats 4000000
def field_Begins.l1.m (K : Nat) (x1 : api_Screen) : Nat → (List Int) → Int → Option ((List Int))
  | 0, _, _ => none
  | k + 1, x2, x0 => (letJ (α := Bool → Option ((List Int))) (fun x3 => (bif x3 then (if 0 ≤ x0 then (if x0 < (x1.Cells.length : Int) then (bif (at_ x1.Cells x0).Field then ((app x2 [x0]).bind fun l0 => (field_Begins.l1.m K x1 k l0 (w64 (x0 + 1)))) else (field_Begins.l1.m K x1 k x2 (w64 (x0 + 1)))) else none) else none) else (some (x2)))) fun j0 => (if x0 < (x1.Cells.length : Int) then (j0 true) else (j0 false)))
def field_Begins.m (K : Nat) (x0 : api_Screen) : Option (List Int) :=
  ((field_Begins.l1.m K x0 K [] 0).bind fun x1 => (some x1))
theorem field_Begins.calls {B I : Gh} {h : Heap} {K : Nat} {x0 : api_Screen} {a0 : Option Addr} {p1 : Nat} {n2 : Nat} {r : (List Int)} (H : field_Begins.m K x0 = some r)  :
    Fc Tryz.prog 24 #[.agg (cl_api_Screen x0 a0 n2 p1).toArray] [rR t_api_Cell .b a0 p1 n2 x0.Cells] B I h (fun v L => ∃ a3 p3 n3, v = .slice a3 n3 p3 ∧ L = [rO (tInt .i64) .i a3 p3 n3 r]) := by
 refine fc_of fun E hs => ?_;unfold field_Begins.m at H;cases hs.nR d0;refine fn_of (rs := [.tmp 2]) (N := 22) Tryz.func24 rfl rfl rfl rfl ?_;refine st 2 [] (k_op (nB hs (cl_api_Screen x0 a0 x0.Cells.length p1) ?_));intro b0 h hs;refine st 10 [] (k_op (lB (hs.bl d0) 2 rfl ?_));refine st 4 [] ?_;obtain ⟨s0, m0, HR0⟩ := bind_some H;refine k_loopT hs tl0 0 (fun T k' ρ h => ∃ (x2 : List Int) (x1 : Int), ∃ a1 p0 n0 I, field_Begins.l1.m K x0 k' x2 x1 = some s0 ∧ Fits [(3, .slice a1 n0 p0), (7, .slice a0 x0.Cells.length p1), (8, iv (x0.Cells.length : Int)), (9, iv x1)] ρ ∧ St E (rO (tInt .i64) .i a1 p0 n0 x2 :: T) I h) (fun T ρ h => ∃ (x3 : List Int), ∃ a2 p2 n1 I, x3 = s0 ∧ Fits [(3, .slice a2 n1 p2)] ρ ∧ St E (rO (tInt .i64) .i a2 p2 n1 x3 :: T) I h) K ⟨[], 0, none, 0, 0, I, m0, ft, hs.pk (.f imON pk0)⟩ ?_ rfl ?_;rotate_left
 ·rintro ρ h ⟨x3, a2, p2, n1, I, rfl, hf, hs⟩;have H := HR0;try dsimp only at H
  refine k_fits _ hf ?_ rfl;cases hs.nO d0;obtain rfl := si H;exact st 5 [] (k_retQ ⟨_, by kernel_rfl, I, _, ⟨a2, p2, x3.length, rfl, rfl⟩, hs.pk (.c d0 .n)⟩)
 clear HR0 m0 H;rintro k' ρ h ⟨x2, x1, a1, p0, n0, I, H, hf, hs⟩;cases k' with
 | zero => cases H
 | succ k =>
  rw [field_Begins.l1.m] at H;refine k_fits _ hf ?_ rfl;cases hs.nO d0;refine st 1 [] (k_jF H hs (fun x4 => [(3, .slice a1 x2.length p0), (7, .slice a0 x0.Cells.length p1), (8, iv (x0.Cells.length : Int)), (9, iv x1), (10, .bool x4)]) ?_ ?_ ?_)
  ·intro j0 H;refine st 1 [] (k_ite H (fun c2 H => ?_) (fun c2 H => ?_))
   ·exact st 1 [] (k_end ⟨true, I, H, ft, hs⟩)
   exact st 1 [] (k_end ⟨false, I, H, ft, hs⟩)
  ·intro ρ h I H hs;refine st 2 [false] (k_out rfl ?_);obtain rfl := si H;exact xE ⟨x2, a1, p0, x2.length, I, rfl, ft, hs.pk (.c d0 pk0)⟩
  intro ρ h I H hs;obtain ⟨c0, H⟩ := guard_pos H;obtain ⟨c1, H⟩ := guard_pos H;refine st 8 [true] (k_val (elemPtr a0 (x1.toNat * 6)) (pI (e := 36) (ik := .i64) (hs.sR d2) c0 c1) ?_);obtain ⟨y0, g0, q0⟩ := (hs.sR d2).toSl.seg c0 c1;obtain rfl := t_api_Cell.open_ q0;refine k_op (lG g0 ?_);refine k_op (nA hs [.bool false, .bool false, .bool false, iv 0, .bool false, .int .u8 0] (.agg #[.bool false, .bool false, .bool false, iv 0, .bool false, .int .u8 0]) ?_);intro b1 h hs;refine st 1 [] (k_op (sN0 hs [.bool ((at_ x0.Cells x1).Field), .bool (((at_ x0.Cells x1).Attr).Protected), .bool (((at_ x0.Cells x1).Attr).Numeric), iv (((at_ x0.Cells x1).Attr).Show), .bool (((at_ x0.Cells x1).Attr).Modified), .int .u8 ((at_ x0.Cells x1).Char)] (ones_of rfl) ?_));intro h hs;refine st 4 [] (k_op (lB (hs.bl d0) 0 rfl ?_));refine k_spl H (fun c3 H => ?_) (fun c3 H => ?_);rotate_left
  ·exact st 8 [false] (k_endL ⟨k, Nat.lt_succ_self _, x2, (w64 (x1 + 1)), a1, p0, x2.length, I, H, ft, hs.pk (.c d1 pk1)⟩)
  refine st 5 [true] (k_op (nS (e := 3) hs .i (tInt .i64) ([x1] : List Int) [iv x1] 1 (iv 0) (Reps.int (I := (Cl.G .i E.B I)) (k := .i64) (l := [x1])) ?_));intro b2 h hs;replace hs := (hs.f d2);obtain ⟨l0, m1, H⟩ := bind_some H;refine k_op (aO (e := 3) (bytes := 8) hs (hs.sO d1) m1 ?_);intro a4 p4 h hs;exact st 7 [] (k_endL ⟨k, Nat.lt_succ_self _, l0, (w64 (x1 + 1)), a4, p4, l0.length, I, H, ft, hs.pk (.c d0 pk2)⟩)
def read_Modified.l1.m (K : Nat) (x1 : api_Screen) (t0 : (List Int)) : Nat → Int → (List api_Entry) → Option ((List api_Entry))
  | 0, _, _ => none
  | k + 1, x0, x2 => (letJ (α := Bool → Option ((List api_Entry))) (fun x3 => (bif x3 then (if 0 ≤ x0 then (if x0 < (t0.length : Int) then (letJ (α := Bool → Option ((List api_Entry))) (fun x4 => (bif x4 then ((grid_On.m x1 (at_ t0 x0) 1).bind fun t1 => ((field_Cells.m K x1 (at_ t0 x0)).bind fun t2 => ((read_letters.m K x1 t2).bind fun t3 => ((app x2 [(⟨t1, t3⟩ : api_Entry)]).bind fun l0 => (read_Modified.l1.m K x1 t0 k (w64 (x0 + 1)) l0))))) else (read_Modified.l1.m K x1 t0 k (w64 (x0 + 1)) x2))) fun j1 => (if 0 ≤ (at_ t0 x0) then (if (at_ t0 x0) < (x1.Cells.length : Int) then (bif ((at_ x1.Cells (at_ t0 x0)).Attr).Modified then (j1 true) else (j1 false)) else none) else none)) else none) else none) else (some (x2)))) fun j0 => (if x0 < (t0.length : Int) then (j0 true) else (j0 false)))
def read_Modified.m (K : Nat) (x0 : api_Screen) (x1 : Int) : Option (api_In × GoErr) :=
  ((attr_Aid.m x1).bind fun t1 => bif t1 then ((attr_Bare.m x1).bind fun t2 => bif t2 then none else (letJ (α := Bool → Option (api_In × GoErr)) (fun x2 => (bif x2 then ((field_Cells.m K x0 0).bind fun t4 => ((read_letters.m K x0 t4).bind fun t0 => (if (t0.length : Int) > 0 then (some ((⟨x1, x0.Cursor, [(⟨(-1), t0⟩ : api_Entry)]⟩ : api_In), GoErr.nil)) else none))) else ((field_Begins.m K x0).bind fun t5 => ((read_Modified.l1.m K x0 t5 K 0 []).bind fun x3 => (some ((⟨x1, x0.Cursor, x3⟩ : api_In), GoErr.nil)))))) fun j0 => ((field_Formatted.m K x0).bind fun t3 => bif t3 then (j0 false) else (j0 true)))) else none)
theorem read_Modified.calls {B I : Gh} {h : Heap} {K : Nat} {x0 : api_Screen} {x2 : Int} {a0 : Option Addr} {p3 : Nat} {n3 : Nat} {r : (api_In × GoErr)} (H : read_Modified.m K x0 x2 = some r)  :
    Fc Tryz.prog 9 #[.agg (cl_api_Screen x0 a0 n3 p3).toArray, .int .u8 x2] [rR t_api_Cell .b a0 p3 n3 x0.Cells] B I h (fun v L => ∃ a7 p4 n2 v0, v = .tuple #[.agg #[.int .u8 r.1.Aid, iv r.1.Cursor, .slice a7 n2 p4], v0] ∧ L = [rO t_api_Entry .i a7 p4 n2 r.1.Fields, rE .i v0 r.2]) := by
 refine fc_of fun E hs => ?_;unfold read_Modified.m at H;cases hs.nR d0;refine fn_of2 (rs := [.cell 4 44, .tmp 5]) (N := 70) Tryz.func9 rfl rfl rfl rfl ?_;refine st 2 [] (k_op (nB hs (cl_api_Screen x0 a0 x0.Cells.length p3) ?_));intro b2 h hs;refine k_op (nA hs [.int .u8 0, iv 0, .slice none 0 0] (.agg #[.int .u8 0, iv 0, .slice none 0 0]) ?_);intro b1 h hs;refine st 7 [] (k_call H (fun _ m => attr_Aid.calls m) ?_);rintro t4 _ _ H ⟨rfl, rfl⟩;cases t4
 ·rw [cond_false] at H;cases H
 rw [cond_true] at H;refine st 7 [false] (k_call H (fun _ m => attr_Bare.calls m) ?_);rintro t5 _ _ H ⟨rfl, rfl⟩;cases t5;rotate_left
 ·rw [cond_true] at H;cases H
 rw [cond_false] at H;refine st 9 [false] (k_op (lB (hs.bl d1) 3 rfl ?_));refine st 1 [] (k_op (nA hs [.int .u8 0, iv 0, .slice none 0 0] (.agg #[.int .u8 0, iv 0, .slice none 0 0]) ?_));intro b0 h hs;refine k_op (sN0 hs [.int .u8 x2, iv x0.Cursor, .slice none 0 0] (ones_of rfl) ?_);intro h hs;refine st 3 [] (k_jT H hs (fun x5 => [(2, pv b2), (4, pv b1), (6, pv b0), (27, .bool x5)]) ?_ ?_ ?_)
 ·intro j0 H;refine st 1 [] (k_op (lN (hs.bl d2) 0 6 ?_));obtain ⟨hk, bk⟩ := hs.call tk0 (.c (qB d3) .n);refine k_call H (fun _ m => field_Formatted.calls m hk) ?_;rintro t6 _ h H ⟨I, _, ⟨rfl, rfl⟩, hk⟩;replace hs := bk hk ct0 rfl;cases t6
  ·rw [cond_false] at H;exact st 2 [] (k_end ⟨true, I, H, ft, hs⟩)
  rw [cond_true] at H;exact st 2 [] (k_end ⟨false, I, H, ft, hs⟩)
 ·intro ρ h I H hs;refine st 3 [true] ?_;obtain ⟨hs0, bk0⟩ := hs.call tk0 (.c (qL d2) (.c (qB d3) .n));have hs := hs0;refine k_regD hs0 5 ?_;refine aG 0 rfl hs.keep (lls hs0 d0 0 6 rfl) (nmL hs0 d0) ?_;refine aG 1 rfl hs.keep (lls hs0 d0 0 6 rfl) (nmL hs0 d0) ?_;obtain ⟨hk, bk⟩ := hs.call tk0 (.c (qB d1) .n);refine aO1 2 rfl (o_call H (fun _ m => field_Cells.calls m hk) ?_);rintro t7 _ h H ⟨I, _, ⟨a8, p8, n4, rfl, rfl⟩, hk⟩;replace hs := bk hk ct1 rfl;cases hs.nO d0;refine ⟨hs.keep, ?_⟩;obtain ⟨hk, bk⟩ := hs.call tk0 (.c (qB d2) (.c (qO d0) .n));refine aO1 3 rfl (o_call H (fun _ m => read_letters.calls m hk) ?_);rintro t1 _ h H ⟨I, _, ⟨a4, p5, n5, rfl, rfl⟩, hk⟩;replace hs := bk hk ct1 rfl;cases hs.nO d0;refine ⟨hs.keep, ?_⟩;refine aRun [4] 0 hs.keep ?_;replace hs := hs.pk (.c d0 (.c d0 .n));replace hs := bk0 hs ct2 rfl;refine aEnd ?_;refine st 4 [] (k_ite H (fun c4 H => ?_) (fun c4 H => ?_));rotate_left
  ·cases H
  obtain ⟨I, hs⟩ := hs.fO;refine st 5 [true] (k_op (nS (e := 51) hs .i t_api_Entry ([(⟨(-1), t1⟩ : api_Entry)] : List api_Entry) [iv (-1), .slice a4 t1.length p5] 2 (.agg #[iv 0, .slice none 0 0]) (Reps.cons (T := t_api_Entry) (c := [iv (-1), .slice a4 t1.length p5]) (x := (⟨(-1), t1⟩ : api_Entry)) ⟨_, _, _, rfl, (hs.g d0)⟩ (.nil : Reps t_api_Entry (Cl.G .i E.B I) h [] [])) ?_));intro b3 h hs;refine st 1 [] (k_op (sB (v := .slice (sa b3) 1 1) (hs.f d3) cw2 ?_));intro h hs;refine st 3 [] (k_op (lN (hs.bl d0) 0 3 ?_));refine k_op (sN0 (hs.f d4) [.int .u8 x2, iv x0.Cursor, .slice (sa b3) 1 1] (ones_of rfl) ?_);intro h hs;obtain rfl := si H;exact st 2 [] (k_retQ ⟨[.agg #[.int .u8 x2, iv x0.Cursor, .slice (sa b3) 1 1], .nilIface], (.cons (.agg (by kernel_rfl) (by kernel_rfl) (by kernel_rfl) ((hs.bl d0).seg_ 0 3 (Nat.le_of_ble_eq_true rfl))) (.cons (.tmp (by kernel_rfl)) .nil)), I, _, ⟨(sa b3), 1, 1, (.nilIface), rfl, rfl⟩, hs.pk (.c d2 (.f imEN .n))⟩)
 intro ρ h I H hs;refine st 5 [false] (k_op (lN (hs.bl d2) 0 6 ?_));obtain ⟨hk, bk⟩ := hs.call tk0 (.c (qB d3) .n);refine k_call H (fun _ m => field_Begins.calls m hk) ?_;rintro t0 _ h H ⟨I, _, ⟨a2, p2, n6, rfl, rfl⟩, hk⟩;replace hs := bk hk ct1 rfl;cases hs.nO d0;refine st 4 [] ?_;obtain ⟨s0, m0, HR0⟩ := bind_some H;refine k_loopT hs tl2 1 (fun T k' ρ h => ∃ (x1 : Int) (x3 : List api_Entry), ∃ a3 p1 n0 I, read_Modified.l1.m K x0 t0 k' x1 x3 = some s0 ∧ Fits [(2, pv b2), (4, pv b1), (6, pv b0), (41, .slice a2 t0.length p2), (42, iv (t0.length : Int)), (43, iv x1)] ρ ∧ St E (rO (tInt .i64) .i a2 p2 t0.length t0 :: rO t_api_Entry .i a3 p1 n0 x3 :: rB b0 [.int .u8 x2, iv x0.Cursor, .slice a3 n0 p1] 44 :: T) I h) (fun T ρ h => ∃ (x4 : List api_Entry), ∃ a1 p0 n1 I, x4 = s0 ∧ Fits [(4, pv b1), (6, pv b0)] ρ ∧ St E (rO t_api_Entry .i a1 p0 n1 x4 :: rB b0 [.int .u8 x2, iv x0.Cursor, .slice a1 n1 p0] 44 :: T) I h) K ⟨0, [], none, 0, 0, I, m0, ft, hs.pk (.c d0 (.f imON (.c d0 pk0)))⟩ ?_ rfl ?_;rotate_left
 ·rintro ρ h ⟨x4, a1, p0, n1, I, rfl, hf, hs⟩;have H := HR0;try dsimp only at H
  refine k_fits _ hf ?_ rfl;cases hs.nO d0;refine st 2 [] (k_op (lN (hs.bl d1) 0 3 ?_));refine k_op (sN0 (hs.f d2) [.int .u8 x2, iv x0.Cursor, .slice a1 x4.length p0] (ones_of rfl) ?_);intro h hs;obtain rfl := si H;exact st 2 [] (k_retQ ⟨[.agg #[.int .u8 x2, iv x0.Cursor, .slice a1 x4.length p0], .nilIface], (.cons (.agg (by kernel_rfl) (by kernel_rfl) (by kernel_rfl) ((hs.bl d0).seg_ 0 3 (Nat.le_of_ble_eq_true rfl))) (.cons (.tmp (by kernel_rfl)) .nil)), I, _, ⟨a1, p0, x4.length, (.nilIface), rfl, rfl⟩, hs.pk (.c d1 (.f imEN .n))⟩)
 clear HR0 m0 H;rintro k' ρ h ⟨x1, x3, a3, p1, n0, I, H, hf, hs⟩;cases k' with
 | zero => cases H
 | succ k =>
  rw [read_Modified.l1.m] at H;refine k_fits _ hf ?_ rfl;cases hs.nO d1;refine st 1 [] (k_jF H hs (fun x6 => [(2, pv b2), (4, pv b1), (6, pv b0), (41, .slice a2 t0.length p2), (42, iv (t0.length : Int)), (43, iv x1), (44, .bool x6)]) ?_ ?_ ?_)
  ·intro j1 H;refine st 1 [] (k_ite H (fun c5 H => ?_) (fun c5 H => ?_))
   ·exact st 1 [] (k_end ⟨true, I, H, ft, hs⟩)
   exact st 1 [] (k_end ⟨false, I, H, ft, hs⟩)
  ·intro ρ h I H hs;refine st 2 [false] (k_out rfl ?_);obtain rfl := si H;exact xE ⟨x3, a3, p1, x3.length, I, rfl, ft, hs.pk (.c d1 (.c d1 pk1))⟩
  intro ρ h I H hs;obtain ⟨c2, H⟩ := guard_pos H;obtain ⟨c3, H⟩ := guard_pos H;refine st 7 [true] (k_val (elemPtr a2 (x1.toNat * 1)) (pI (e := 3) (ik := .i64) (hs.sO d0) c2 c3) ?_);refine k_op (lC ((hs.sO d0).cell1 c2 c3) ?_);refine st 3 [] (k_jF H hs (fun x7 => [(2, pv b2), (4, pv b1), (6, pv b0), (9, iv (at_ t0 x1)), (41, .slice a2 t0.length p2), (42, iv (t0.length : Int)), (43, iv x1), (53, .bool x7)]) ?_ ?_ ?_)
  ·intro j2 H;refine st 2 [] (k_op (lB (hs.bl d4) 2 rfl ?_));obtain ⟨c0, H⟩ := guard_pos H;obtain ⟨c1, H⟩ := guard_pos H;refine st 1 [] (k_val (elemPtr a0 ((at_ t0 x1).toNat * 6)) (pI (e := 36) (ik := .i64) (hs.sR d5) c0 c1) ?_);refine k_val (elemPtr a0 ((at_ t0 x1).toNat * 6 + 1)) (pF (off := 1) (hs.sR d5) c0 c1) ?_;refine k_val (elemPtr a0 ((at_ t0 x1).toNat * 6 + 1 + 3)) (pF (off := 3) (hs.sR d5) c0 c1) ?_;obtain ⟨y0, g0, q0⟩ := (hs.sR d5).toSl.seg c0 c1;obtain rfl := t_api_Cell.open_ q0;refine k_op (lC (seg_cell (f := 4) g0 rfl) ?_);refine k_spl H (fun c6 H => ?_) (fun c6 H => ?_)
   ·exact st 1 [] (k_end ⟨true, I, H, ft, hs⟩)
   exact st 1 [] (k_end ⟨false, I, H, ft, hs⟩)
  ·intro ρ h I H hs;exact st 7 [false] (k_endL ⟨k, Nat.lt_succ_self _, (w64 (x1 + 1)), x3, a3, p1, x3.length, I, H, ft, hs.pk (.c d0 (.c d0 (.c d0 pk0)))⟩)
  intro ρ h I H hs;refine st 1 [true] ?_;obtain ⟨hs0, bk0⟩ := hs.call tk0 (.c (qL d2) (.c (qL d4) (.c (qB d5) .n)));have hs := hs0;refine k_regD hs0 12 ?_;refine aRun [0] 14 hs.keep ?_;refine aL 1 rfl hs.keep (ll hs0 d0 (n := 2) rfl) (nmL hs0 d0) ?_;refine aG 2 rfl hs.keep (lls hs0 d1 0 6 rfl) (nmL hs0 d1) ?_;refine aRun [3] 11 hs.keep ?_;refine aG 5 rfl hs.keep (lls hs0 d1 0 6 rfl) (nmL hs0 d1) ?_;refine aG 6 rfl hs.keep (lls hs0 d1 0 6 rfl) (nmL hs0 d1) ?_;refine aRun [7] 8 hs.keep ?_;obtain ⟨hk, bk⟩ := hs.call tk0 (.c (qB d2) .n);refine aO1 4 rfl (o_call H (fun _ m => grid_On.calls m hk) ?_);rintro t2 _ h H ⟨I, _, ⟨rfl, rfl⟩, hk⟩;replace hs := bk hk ct0 rfl;refine ⟨hs.keep, ?_⟩;obtain ⟨hk, bk⟩ := hs.call tk0 (.c (qB d2) .n);refine aO1 8 rfl (o_call H (fun _ m => field_Cells.calls m hk) ?_);rintro t8 _ h H ⟨I, _, ⟨a9, p9, n7, rfl, rfl⟩, hk⟩;replace hs := bk hk ct1 rfl;cases hs.nO d0;refine ⟨hs.keep, ?_⟩;obtain ⟨hk, bk⟩ := hs.call tk0 (.c (qB d3) (.c (qO d0) .n));refine aO1 9 rfl (o_call H (fun _ m => read_letters.calls m hk) ?_);rintro t3 _ h H ⟨I, _, ⟨a5, p6, n8, rfl, rfl⟩, hk⟩;replace hs := bk hk ct1 rfl;cases hs.nO d0;refine ⟨hs.keep, ?_⟩;obtain ⟨I, hs⟩ := hs.fO;refine aRun [10] 4 hs.keep ?_;refine aO1 11 rfl (nS (e := 51) hs .i t_api_Entry ([(⟨t2, t3⟩ : api_Entry)] : List api_Entry) [iv t2, .slice a5 t3.length p6] 2 (.agg #[iv 0, .slice none 0 0]) (Reps.cons (T := t_api_Entry) (c := [iv t2, .slice a5 t3.length p6]) (x := (⟨t2, t3⟩ : api_Entry)) ⟨_, _, _, rfl, (hs.g d0)⟩ (.nil : Reps t_api_Entry (Cl.G .i E.B I) h [] [])) ?_);intro b4 h hs;refine ⟨hs.keep, ?_⟩;replace hs := hs.pk (.c d0 (.c d0 (.c d0 .n)));replace hs := bk0 hs ct3 rfl;replace hs := (hs.f d4);obtain ⟨l0, m1, H⟩ := bind_some H;refine aOL 12 rfl (aO (e := 51) (bytes := 32) hs (hs.sO d1) m1 ?_);intro a6 p7 h hs;refine aOL 13 rfl (owp_pure (.pointer (some ⟨b0, 2, none⟩)) (by kernel_rfl) ?_);refine aOL 14 rfl (sB (v := .slice a6 l0.length p7) (hs.f d5) cw2 ?_);intro h hs;refine aEnd ?_;exact st 5 [] (k_endL ⟨k, Nat.lt_succ_self _, (w64 (x1 + 1)), l0, a6, p7, l0.length, I, H, ft, hs.pk (.c d5 (.c d1 (.c d0 pk3)))⟩)
def input_spot.m (x0 : Int) (x1 : GoErr) : Option GoErr :=
  (some (GoErr.spot x0 x1))
theorem input_spot.calls {B I : Gh} {h : Heap} {x0 : Int} {x1 : GoErr} {v0 : Value} {r : GoErr} (H : input_spot.m x0 x1 = some r)  :
    Fc Tryz.prog 28 #[iv x0, v0] [rE .i v0 x1] B I h (fun v L => ∃ v1, v = v1 ∧ L = [rE .i v1 r]) := by
 refine fc_of fun E hs => ?_;unfold input_spot.m at H;refine fn_of (rs := [.tmp 4]) (N := 10) Tryz.func28 rfl rfl rfl rfl ?_;rcases (hs.er d0).cases with ⟨c0, rfl⟩ | ⟨c0, t0, u0, rfl⟩
 ·refine st 9 [] (k_op (nB hs [iv x0, .nilIface] ?_));intro b0 h hs;have q0 := (hs.er d1);obtain ⟨I, hs⟩ := hs.fS q0;obtain rfl := si H;exact st 3 [] (k_retQ ⟨_, by kernel_rfl, I, _, ⟨((.iface 141 (pv b0))), rfl, rfl⟩, hs.pk (.c d0 .n)⟩)
 refine st 9 [] (k_op (nB hs [iv x0, (.iface t0 u0)] ?_));intro b0 h hs;have q0 := (hs.er d1);obtain ⟨I, hs⟩ := hs.fS q0;obtain rfl := si H;exact st 3 [] (k_retQ ⟨_, by kernel_rfl, I, _, ⟨((.iface 141 (pv b0))), rfl, rfl⟩, hs.pk (.c d0 .n)⟩)
def input_letter.m (x0 : Int) : Option Bool :=
  (if x0 = 0 then (some false) else ((attr_Char.m x0).bind fun t0 => (some t0)))
theorem input_letter.calls {x0 : Int} {h : Heap} {r : Bool} (H : input_letter.m x0 = some r)   :
    Ret Tryz.prog 68 #[.int .u8 x0] h (fun v h' => .bool r = v ∧ h' = h) := by
 unfold input_letter.m at H;refine fn_of (rs := [.tmp 2]) (N := 9) Tryz.func68 rfl rfl rfl rfl ?_;refine st 7 [] (k_iteN H (fun c0 H => ?_) (fun c0 H => ?_))
 ·obtain rfl := si H;exact st 6 [] (k_retQ ⟨_, by kernel_rfl, rfl, rfl⟩)
 refine st 2 [] (k_call H (fun _ m => attr_Char.calls m) ?_);rintro t0 _ _ H ⟨rfl, rfl⟩;obtain rfl := si H;exact st 3 [] (k_retQ ⟨_, by kernel_rfl, rfl, rfl⟩)
def input_strange.m (x0 : Int) : Option Bool :=
  ((input_letter.m x0).bind fun t0 => (some (!t0)))
theorem input_strange.calls {x0 : Int} {h : Heap} {r : Bool} (H : input_strange.m x0 = some r)   :
    Ret Tryz.prog 96 #[.int .u8 x0] h (fun v h' => .bool r = v ∧ h' = h) := by
 unfold input_strange.m at H;refine fn_of (rs := [.tmp 2]) (N := 6) Tryz.func96 rfl rfl rfl rfl ?_;refine st 7 [] (k_call H (fun _ m => input_letter.calls m) ?_);rintro t0 _ _ H ⟨rfl, rfl⟩;obtain rfl := si H;exact st 3 [] (k_retQ ⟨_, by kernel_rfl, rfl, rfl⟩)
def slices_IndexFunc_bytes__input_strange.l1.m (K : Nat) (x1 : (List Int)) : Nat → Int → Option (Int ⊕ (Unit))
  | 0, _ => none
  | k + 1, x0 => (letJ (α := Bool → Option (Int ⊕ (Unit))) (fun x2 => (bif x2 then (if 0 ≤ x0 then (if x0 < (x1.length : Int) then ((input_strange.m (at_ x1 x0)).bind fun t0 => bif t0 then (some (Sum.inl x0)) else (slices_IndexFunc_bytes__input_strange.l1.m K x1 k (w64 (x0 + 1)))) else none) else none) else (some (Sum.inr ())))) fun j0 => (if x0 < (x1.length : Int) then (j0 true) else (j0 false)))
def slices_IndexFunc_bytes__input_strange.m (K : Nat) (x0 : (List Int)) : Option Int :=
  ((slices_IndexFunc_bytes__input_strange.l1.m K x0 K 0).bind fun s0 => match s0 with | .inl q => (some q) | .inr _ => (some (-1)))
theorem slices_IndexFunc_bytes__input_strange.calls {G : Gh} {K : Nat} {x0 : (List Int)} {a0 : Option Addr} {p0 : Nat} {n0 : Nat} {h : Heap} {r : Int} (H : slices_IndexFunc_bytes__input_strange.m K x0 = some r)  (s0 : Sn (tInt .u8) G h a0 p0 n0 x0) :
    Ret Tryz.prog 127 #[.slice a0 n0 p0, .func (.func 96) #[] #[]] h (fun v h' => iv r = v ∧ h' = h) := by
 unfold slices_IndexFunc_bytes__input_strange.m at H;obtain rfl := s0.len.symm;refine fn_of (rs := [.tmp 4]) (N := 19) Tryz.func127 rfl rfl rfl rfl ?_;refine st 12 [] ?_;obtain ⟨s1, m0, HR0⟩ := bind_some H;refine k_loop 0 (fun k' ρ h0 => ∃ (x1 : Int), slices_IndexFunc_bytes__input_strange.l1.m K x0 k' x1 = some s1 ∧ Fits [(0, .slice a0 x0.length p0), (1, .func (.func 96) #[] #[]), (7, iv (x0.length : Int)), (8, iv x1)] ρ ∧ h = h0) (fun ρ h0 => Sum.inr () = s1 ∧ Fits [] ρ ∧ h = h0) K ⟨0, m0, ft, rfl⟩ ?_ rfl ?_;rotate_left
 ·rintro ρ h0 ⟨rfl, hf, rfl⟩;have H := HR0;try dsimp only at H
  refine k_fits _ hf ?_ rfl;obtain rfl := si H;exact st 4 [] (k_retQ ⟨_, by kernel_rfl, rfl, rfl⟩)
 clear m0 H;rintro k' ρ h0 ⟨x1, H, hf, rfl⟩;cases k' with
 | zero => cases H
 | succ k =>
  rw [slices_IndexFunc_bytes__input_strange.l1.m] at H;refine k_fits _ hf ?_ rfl;refine st 1 [] ?_;obtain ⟨j0, e0, H⟩ := letJ_some H;refine k_join (fun ρ h0 => ∃ (x2 : Bool), j0 x2 = some s1 ∧ Fits [(0, .slice a0 x0.length p0), (1, .func (.func 96) #[] #[]), (7, iv (x0.length : Int)), (8, iv x1), (9, .bool x2)] ρ ∧ h = h0) ?_ ?_
  ·refine st 1 [] (k_ite H (fun c2 H => ?_) (fun c2 H => ?_))
   ·exact st 1 [] (k_end ⟨true, H, ft, rfl⟩)
   exact st 1 [] (k_end ⟨false, H, ft, rfl⟩)
  clear H;rintro ρ h0 ⟨x2, H, hf, rfl⟩;refine k_fits _ hf ?_ rfl;subst e0;try dsimp only at H
  cases x2
  ·rw [cond_false] at H;refine st 2 [false] (k_out rfl ?_);obtain rfl := si H;exact xE ⟨rfl, trivial, rfl⟩
  rw [cond_true] at H;obtain ⟨c0, H⟩ := guard_pos H;obtain ⟨c1, H⟩ := guard_pos H;refine st 15 [true] (k_val (elemPtr a0 (x1.toNat * 1)) (pI (e := 5) (ik := .i64) s0 c0 c1) ?_);refine k_op (lC (s0.cell1 c0 c1) ?_);refine k_call H (fun _ m => input_strange.calls m) ?_;rintro t0 _ _ H ⟨rfl, rfl⟩;cases t0
  ·rw [cond_false] at H;exact st 8 [false] (k_endL ⟨k, Nat.lt_succ_self _, (w64 (x1 + 1)), H, ft, rfl⟩)
  rw [cond_true] at H;refine st 7 [true] (k_retQ (krL ?_));obtain rfl := si H;obtain rfl := Option.some.inj HR0;exact ⟨_, by kernel_rfl, rfl, rfl⟩
def slices_ContainsFunc_bytes__input_strange.m (K : Nat) (x0 : (List Int)) : Option Bool :=
  ((slices_IndexFunc_bytes__input_strange.m K x0).bind fun t0 => (some (decide (t0 ≥ 0))))
theorem slices_ContainsFunc_bytes__input_strange.calls {B I : Gh} {h : Heap} {K : Nat} {x0 : (List Int)} {a0 : Option Addr} {p0 : Nat} {n0 : Nat} {r : Bool} (H : slices_ContainsFunc_bytes__input_strange.m K x0 = some r)  :
    Fc Tryz.prog 95 #[.slice a0 n0 p0, .func (.func 96) #[] #[]] [rR (tInt .u8) .b a0 p0 n0 x0] B I h (fun v L => v = .bool r ∧ L = []) := by
 refine fc_of fun E hs => ?_;unfold slices_ContainsFunc_bytes__input_strange.m at H;cases hs.nR d0;refine fn_of (rs := [.tmp 4]) (N := 9) Tryz.func95 rfl rfl rfl rfl ?_;refine st 8 [] (k_call H (fun _ m => slices_IndexFunc_bytes__input_strange.calls m (hs.sR d0)) ?_);rintro t0 _ _ H ⟨rfl, rfl⟩;obtain rfl := si H;exact st 3 [] (k_retQ ⟨_, by kernel_rfl, I, _, ⟨rfl, rfl⟩, hs.pk .n⟩)
def input_field.m (K : Nat) (x0 : api_Entry) (x2 : Bool) (x3 : Int) : Option GoErr :=
  (letJ (α := Bool → Option GoErr) (fun x1 => (letJ (α := Bool → Option GoErr) (fun x4 => (bif x4 then (some (GoErr.no 4)) else (letJ (α := Bool → Option GoErr) (fun x5 => (bif x5 then (some (GoErr.no 3)) else (bif x1 then (if (x0.Text.length : Int) = 0 then (some (GoErr.no 1)) else (some GoErr.nil)) else (some GoErr.nil)))) fun j2 => ((slices_ContainsFunc_bytes__input_strange.m K x0.Text).bind fun t0 => bif t0 then (j2 true) else (j2 false))))) fun j0 => (bif x1 then (j0 false) else (if x0.Addr < 0 then (j0 true) else (if x0.Addr ≥ x3 then (j0 true) else (j0 false)))))) fun j1 => (bif x2 then (if x0.Addr = (-1) then (j1 true) else (j1 false)) else (j1 false)))
theorem input_field.calls {B I : Gh} {h : Heap} {K : Nat} {x0 : api_Entry} {x3 : Bool} {x2 : Int} {a0 : Option Addr} {p0 : Nat} {n0 : Nat} {r : GoErr} (H : input_field.m K x0 x3 x2 = some r)  :
    Fc Tryz.prog 61 #[.agg #[iv x0.Addr, .slice a0 n0 p0], .bool x3, iv x2] [rR (tInt .u8) .b a0 p0 n0 x0.Text] B I h (fun v L => ∃ v0, v = v0 ∧ L = [rE .i v0 r]) := by
 refine fc_of fun E hs => ?_;unfold input_field.m at H;cases hs.nR d0;refine fn_of (rs := [.tmp 6]) (N := 43) Tryz.func61 rfl rfl rfl rfl ?_;refine st 2 [] (k_op (nB hs [iv x0.Addr, .slice a0 x0.Text.length p0] ?_));intro b0 h hs;refine st 3 [] ?_;obtain ⟨j0, e0, H⟩ := letJ_some H;refine k_joinT (fun T ρ h => ∃ (x1 : Bool), ∃ I, j0 x1 = some r ∧ Fits [(2, iv x2), (3, pv b0), (7, .bool x1)] ρ ∧ St E T I h) hs tl0 ?_ ?_
 ·refine st 1 [] (k_if H (fun c0 H => ?_) (fun c0 H => ?_));rotate_left
  ·exact st 7 [] (k_end ⟨false, I, H, ft, hs⟩)
  refine st 2 [] (k_op (lB (hs.bl d0) 0 rfl ?_));refine k_ite H (fun c1 H => ?_) (fun c1 H => ?_)
  ·exact st 3 [] (k_end ⟨true, I, H, ft, hs⟩)
  exact st 3 [] (k_end ⟨false, I, H, ft, hs⟩)
 clear H;rintro ρ h ⟨x1, I, H, hf, hs⟩;refine k_fits _ hf ?_ rfl;subst e0;try dsimp only at H
 refine st 3 [] (k_jT H hs (fun x4 => [(3, pv b0), (7, .bool x1), (14, .bool x4)]) ?_ ?_ ?_)
 ·intro j1 H;refine st 1 [] (k_if H (fun c2 H => ?_) (fun c2 H => ?_))
  ·exact st 14 [] (k_end ⟨false, I, H, ft, hs⟩)
  refine st 3 [] (k_op (lB (hs.bl d0) 0 rfl ?_));refine k_ite H (fun c3 H => ?_) (fun c3 H => ?_)
  ·exact st 9 [] (k_end ⟨true, I, H, ft, hs⟩)
  refine st 2 [] (k_op (lB (hs.bl d0) 0 rfl ?_));refine st 1 [] (k_ite H (fun c4 H => ?_) (fun c4 H => ?_))
  ·exact st 4 [] (k_end ⟨true, I, H, ft, hs⟩)
  exact st 4 [] (k_end ⟨false, I, H, ft, hs⟩)
 ·intro ρ h I H hs;obtain rfl := si H;exact st 6 [true] (k_retQ ⟨_, by kernel_rfl, I, _, ⟨(.iface 75 (iv 4)), rfl, rfl⟩, hs.pk (.f imEC .n)⟩)
 intro ρ h I H hs;refine st 2 [false] (k_jT H hs (fun x5 => [(3, pv b0), (7, .bool x1), (29, .bool x5)]) ?_ ?_ ?_)
 ·intro j2 H;refine st 2 [] (k_op (lB (hs.bl d0) 1 rfl ?_));obtain ⟨hk, bk⟩ := hs.call tk0 (.c (qB d1) .n);refine k_call H (fun _ m => slices_ContainsFunc_bytes__input_strange.calls m hk) ?_;rintro t0 _ h H ⟨I, _, ⟨rfl, rfl⟩, hk⟩;replace hs := bk hk ct0 rfl;cases t0
  ·rw [cond_false] at H;exact st 2 [] (k_end ⟨false, I, H, ft, hs⟩)
  rw [cond_true] at H;exact st 2 [] (k_end ⟨true, I, H, ft, hs⟩)
 ·intro ρ h I H hs;obtain rfl := si H;exact st 6 [true] (k_retQ ⟨_, by kernel_rfl, I, _, ⟨(.iface 75 (iv 3)), rfl, rfl⟩, hs.pk (.f imEC .n)⟩)
 intro ρ h I H hs;refine st 3 [false] (k_if H (fun c5 H => ?_) (fun c5 H => ?_));rotate_left
 ·obtain rfl := si H;exact st 15 [false] (k_retQ ⟨_, by kernel_rfl, I, _, ⟨(.nilIface), rfl, rfl⟩, hs.pk (.f imEN .n)⟩)
 refine st 2 [] (k_op (lB (hs.bl d0) 1 rfl ?_));refine st 1 [] (k_ite H (fun c6 H => ?_) (fun c6 H => ?_))
 ·obtain rfl := si H;exact st 9 [true] (k_retQ ⟨_, by kernel_rfl, I, _, ⟨(.iface 75 (iv 1)), rfl, rfl⟩, hs.pk (.f imEC .n)⟩)
 obtain rfl := si H;exact st 10 [false] (k_retQ ⟨_, by kernel_rfl, I, _, ⟨(.nilIface), rfl, rfl⟩, hs.pk (.f imEN .n)⟩)
def input_Right.l1.m (K : Nat) (x1 : api_In) (x2 : Int) : Nat → Int → Option (GoErr ⊕ (Unit))
  | 0, _ => none
  | k + 1, x0 => (letJ (α := Bool → Option (GoErr ⊕ (Unit))) (fun x3 => (bif x3 then (if 0 ≤ x0 then (if x0 < (x1.Fields.length : Int) then ((input_field.m K (at_ x1.Fields x0) ((x1.Fields.length : Int) == 1) x2).bind fun t0 => (if t0 = GoErr.nil then (input_Right.l1.m K x1 x2 k (w64 (x0 + 1))) else ((input_spot.m x0 t0).bind fun t1 => (some (Sum.inl t1))))) else none) else none) else (some (Sum.inr ())))) fun j0 => (if x0 < (x1.Fields.length : Int) then (j0 true) else (j0 false)))
def input_Right.m (K : Nat) (x0 : api_In) (x1 : Int) : Option GoErr :=
  (letJ (α := Bool → Option GoErr) (fun x2 => (bif x2 then (some (GoErr.no 3)) else (letJ (α := Bool → Option GoErr) (fun x3 => (bif x3 then (if x0.Cursor = 0 then (if (x0.Fields.length : Int) > 0 then (some (GoErr.no 1)) else (some GoErr.nil)) else (some (GoErr.no 1))) else (if x0.Cursor < 0 then (some (GoErr.no 4)) else (if x0.Cursor ≥ x1 then (some (GoErr.no 4)) else ((input_Right.l1.m K x0 x1 K 0).bind fun s0 => match s0 with | .inl q => (some q) | .inr _ => (some GoErr.nil)))))) fun j1 => ((attr_Bare.m x0.Aid).bind fun t1 => bif t1 then (j1 true) else (j1 false))))) fun j0 => ((attr_Aid.m x0.Aid).bind fun t0 => bif t0 then (j0 false) else (j0 true)))
theorem input_Right.calls {B I : Gh} {h : Heap} {K : Nat} {x0 : api_In} {x2 : Int} {a0 : Option Addr} {p0 : Nat} {n0 : Nat} {r : GoErr} (H : input_Right.m K x0 x2 = some r)  :
    Fc Tryz.prog 26 #[.agg #[.int .u8 x0.Aid, iv x0.Cursor, .slice a0 n0 p0], iv x2] [rR t_api_Entry .b a0 p0 n0 x0.Fields] B I h (fun v L => ∃ v0, v = v0 ∧ L = [rE .i v0 r]) := by
 refine fc_of fun E hs => ?_;unfold input_Right.m at H;cases hs.nR d0;refine fn_of (rs := [.tmp 4]) (N := 60) Tryz.func26 rfl rfl rfl rfl ?_;refine st 2 [] (k_op (nB hs [.int .u8 x0.Aid, iv x0.Cursor, .slice a0 x0.Fields.length p0] ?_));intro b0 h hs;refine st 5 [] (k_jT H hs (fun x3 => [(1, iv x2), (2, pv b0), (8, .bool x3)]) ?_ ?_ ?_)
 ·intro j0 H;refine st 2 [] (k_op (lB (hs.bl d0) 0 rfl ?_));refine k_call H (fun _ m => attr_Aid.calls m) ?_;rintro t0 _ _ H ⟨rfl, rfl⟩;cases t0
  ·rw [cond_false] at H;exact st 3 [] (k_end ⟨true, I, H, ft, hs⟩)
  rw [cond_true] at H;exact st 3 [] (k_end ⟨false, I, H, ft, hs⟩)
 ·intro ρ h I H hs;obtain rfl := si H;exact st 6 [true] (k_retQ ⟨_, by kernel_rfl, I, _, ⟨(.iface 75 (iv 3)), rfl, rfl⟩, hs.pk (.f imEC .n)⟩)
 intro ρ h I H hs;refine st 2 [false] (k_jT H hs (fun x4 => [(1, iv x2), (2, pv b0), (14, .bool x4)]) ?_ ?_ ?_)
 ·intro j1 H;refine st 2 [] (k_op (lB (hs.bl d0) 0 rfl ?_));refine k_call H (fun _ m => attr_Bare.calls m) ?_;rintro t1 _ _ H ⟨rfl, rfl⟩;cases t1
  ·rw [cond_false] at H;exact st 2 [] (k_end ⟨false, I, H, ft, hs⟩)
  rw [cond_true] at H;exact st 2 [] (k_end ⟨true, I, H, ft, hs⟩)
 ·intro ρ h I H hs;refine st 5 [true] (k_op (lB (hs.bl d0) 1 rfl ?_));refine k_iteN H (fun c3 H => ?_) (fun c3 H => ?_);rotate_left
  ·obtain rfl := si H;exact st 13 [true] (k_retQ ⟨_, by kernel_rfl, I, _, ⟨(.iface 75 (iv 1)), rfl, rfl⟩, hs.pk (.f imEC .n)⟩)
  refine st 2 [] (k_op (lB (hs.bl d0) 2 rfl ?_));refine st 1 [] (k_ite H (fun c4 H => ?_) (fun c4 H => ?_))
  ·obtain rfl := si H;exact st 8 [true] (k_retQ ⟨_, by kernel_rfl, I, _, ⟨(.iface 75 (iv 1)), rfl, rfl⟩, hs.pk (.f imEC .n)⟩)
  obtain rfl := si H;exact st 8 [false] (k_retQ ⟨_, by kernel_rfl, I, _, ⟨(.nilIface), rfl, rfl⟩, hs.pk (.f imEN .n)⟩)
 intro ρ h I H hs;refine st 4 [false] (k_op (lB (hs.bl d0) 1 rfl ?_));refine k_ite H (fun c5 H => ?_) (fun c5 H => ?_)
 ·obtain rfl := si H;exact st 14 [true] (k_retQ ⟨_, by kernel_rfl, I, _, ⟨(.iface 75 (iv 4)), rfl, rfl⟩, hs.pk (.f imEC .n)⟩)
 refine st 2 [] (k_op (lB (hs.bl d0) 1 rfl ?_));refine st 1 [] (k_ite H (fun c6 H => ?_) (fun c6 H => ?_))
 ·obtain rfl := si H;exact st 9 [true] (k_retQ ⟨_, by kernel_rfl, I, _, ⟨(.iface 75 (iv 4)), rfl, rfl⟩, hs.pk (.f imEC .n)⟩)
 refine st 10 [false] (k_op (lB (hs.bl d0) 2 rfl ?_));refine st 4 [] ?_;obtain ⟨s0, m0, HR0⟩ := bind_some H;refine k_loopT hs tl0 1 (fun T k' ρ h => ∃ (x1 : Int), ∃ I, input_Right.l1.m K x0 x2 k' x1 = some s0 ∧ Fits [(1, iv x2), (2, pv b0), (40, .slice a0 x0.Fields.length p0), (41, iv (x0.Fields.length : Int)), (42, iv x1)] ρ ∧ St E T I h) (fun T ρ h => ∃ I, Sum.inr () = s0 ∧ Fits [] ρ ∧ St E T I h) K ⟨0, I, m0, ft, hs⟩ ?_ rfl ?_;rotate_left
 ·rintro ρ h ⟨I, rfl, hf, hs⟩;have H := HR0;try dsimp only at H
  refine k_fits _ hf ?_ rfl;obtain rfl := si H;exact st 4 [] (k_retQ ⟨_, by kernel_rfl, I, _, ⟨(.nilIface), rfl, rfl⟩, hs.pk (.f imEN .n)⟩)
 clear m0 H;rintro k' ρ h ⟨x1, I, H, hf, hs⟩;cases k' with
 | zero => cases H
 | succ k =>
  rw [input_Right.l1.m] at H;refine k_fits _ hf ?_ rfl;refine st 1 [] (k_jF H hs (fun x5 => [(1, iv x2), (2, pv b0), (40, .slice a0 x0.Fields.length p0), (41, iv (x0.Fields.length : Int)), (42, iv x1), (43, .bool x5)]) ?_ ?_ ?_)
  ·intro j2 H;refine st 1 [] (k_ite H (fun c7 H => ?_) (fun c7 H => ?_))
   ·exact st 1 [] (k_end ⟨true, I, H, ft, hs⟩)
   exact st 1 [] (k_end ⟨false, I, H, ft, hs⟩)
  ·intro ρ h I H hs;refine st 2 [false] (k_out rfl ?_);obtain rfl := si H;exact xE ⟨I, rfl, trivial, hs⟩
  intro ρ h I H hs;obtain ⟨c1, H⟩ := guard_pos H;obtain ⟨c2, H⟩ := guard_pos H;refine st 8 [true] (k_val (elemPtr a0 (x1.toNat * 2)) (pI (e := 51) (ik := .i64) (hs.sR d1) c1 c2) ?_);obtain ⟨y0, g0, q1⟩ := (hs.sR d1).toSl.seg c1 c2;obtain ⟨a1, p1, n1, rfl, q0⟩ := t_api_Entry.open_ q1;obtain rfl := q0.2;replace hs := hs.pR q0;refine k_op (lG g0 ?_);refine k_op (nA hs [iv 0, .slice none 0 0] (.agg #[iv 0, .slice none 0 0]) ?_);intro b1 h hs;refine st 1 [] (k_op (sN0 hs [iv ((at_ x0.Fields x1).Addr), .slice a1 (((at_ x0.Fields x1).Text).length) p1] (ones_of rfl) ?_));intro h hs;refine st 3 [] (k_op (lN (hs.bl d0) 0 2 ?_));refine st 1 [] (k_op (lB (hs.bl d2) 2 rfl ?_));obtain ⟨hk, bk⟩ := hs.call tk0 (.c (qB d1) .n);refine st 3 [] (k_call H (fun _ m => input_field.calls m hk) ?_);rintro t2 v2 h H ⟨I, _, ⟨_, rfl, rfl⟩, hk⟩;replace hs := bk hk ct1 rfl;rcases (hs.er d0).cases with ⟨c0, rfl⟩ | ⟨c0, t3, u0, rfl⟩
  ·rw [if_pos c0] at H;exact st 14 [false] (k_endL ⟨k, Nat.lt_succ_self _, (w64 (x1 + 1)), I, H, ft, hs.pk pk3⟩)
  rw [if_neg c0] at H;obtain ⟨hk, bk⟩ := hs.call tk0 (.c (xK d0) .n);refine st 12 [true] (k_call H (fun _ m => input_spot.calls m hk) ?_);rintro t4 v1 h H ⟨I, _, ⟨_, rfl, rfl⟩, hk⟩;replace hs := bk hk ct1 rfl;refine st 2 [] (k_retQ (krL ?_));obtain rfl := si H;obtain rfl := Option.some.inj HR0;exact ⟨_, by kernel_rfl, I, _, ⟨(v1), rfl, rfl⟩, hs.pk (.c d0 .n)⟩
def six_Put.m (x0 : Int) : Option (Int × GoErr) :=
  (if x0 < 0 then (some (0, (GoErr.no 1))) else (if x0 ≥ 64 then (some (0, (GoErr.no 1))) else ((six_at.m x0).bind fun t0 => (some (t0, GoErr.nil)))))
theorem six_Put.calls {B I : Gh} {h : Heap} {x0 : Int} {r : (Int × GoErr)} (H : six_Put.m x0 = some r)  :
    Fc Tryz.prog 79 #[iv x0] [] B I h (fun v L => ∃ v0, v = .tuple #[.int .u8 r.1, v0] ∧ L = [rE .i v0 r.2]) := by
 refine fc_of fun E hs => ?_;unfold six_Put.m at H;refine fn_of (rs := [.tmp 2, .tmp 3]) (N := 13) Tryz.func79 rfl rfl rfl rfl ?_;refine st 9 [] (k_ite H (fun c0 H => ?_) (fun c0 H => ?_))
 ·obtain rfl := si H;exact st 12 [true] (k_retQ ⟨_, by kernel_rfl, I, _, ⟨(.iface 75 (iv 1)), rfl, rfl⟩, hs.pk (.f imEC .n)⟩)
 refine st 2 [] (k_ite H (fun c1 H => ?_) (fun c1 H => ?_))
 ·obtain rfl := si H;exact st 9 [true] (k_retQ ⟨_, by kernel_rfl, I, _, ⟨(.iface 75 (iv 1)), rfl, rfl⟩, hs.pk (.f imEC .n)⟩)
 refine st 7 [false] (k_call H (fun _ m => six_at.calls m) ?_);rintro t0 _ _ H ⟨rfl, rfl⟩;obtain rfl := si H;exact st 3 [] (k_retQ ⟨_, by kernel_rfl, I, _, ⟨(.nilIface), rfl, rfl⟩, hs.pk (.f imEN .n)⟩)
def addr_Put.l1.m (K : Nat) (x1 : Int) : Nat → Int → (List Int) → Option (((List Int) × GoErr) ⊕ ((List Int)))
  | 0, _, _ => none
  | k + 1, x0, x2 => (letJ (α := Bool → Option (((List Int) × GoErr) ⊕ ((List Int)))) (fun x3 => (bif x3 then (if 0 ≤ x0 then (if x0 < ([(shr .i64 x1 6), (bAnd .i64 x1 63)].length : Int) then ((six_Put.m (at_ [(shr .i64 x1 6), (bAnd .i64 x1 63)] x0)).bind fun t0 => (if t0.2 = GoErr.nil then (if x0 < 2 then (addr_Put.l1.m K x1 k (w64 (x0 + 1)) (x2.set x0.toNat t0.1)) else none) else (some (Sum.inl ((List.replicate 2 (0 : Int)), t0.2))))) else none) else none) else (some (Sum.inr x2)))) fun j0 => (if x0 < (2 : Int) then (j0 true) else (j0 false)))
def addr_Put.m (K : Nat) (x0 : Int) (x1 : Int) : Option ((List Int) × GoErr) :=
  (letJ (α := Bool → Option ((List Int) × GoErr)) (fun x2 => (bif x2 then (some ((List.replicate 2 (0 : Int)), (GoErr.no 1))) else (letJ (α := Bool → Option ((List Int) × GoErr)) (fun x3 => (bif x3 then (some ((List.replicate 2 (0 : Int)), (GoErr.no 4))) else ((addr_Long.m x1).bind fun t1 => bif t1 then (some ([(IntKind.u8.wrap ((shr .i64 x0 8))), (IntKind.u8.wrap (x0))], GoErr.nil)) else ((addr_Put.l1.m K x0 K 0 (List.replicate 2 (0 : Int))).bind fun s0 => match s0 with | .inl q => (some q) | .inr x4 => (some (x4, GoErr.nil)))))) fun j0 => (if x0 < 0 then (j0 true) else (if x0 ≥ x1 then (j0 true) else (j0 false)))))) fun j1 => ((addr_sized.m x1).bind fun t0 => bif t0 then (j1 false) else (j1 true)))
theorem addr_Put.calls {B I : Gh} {h : Heap} {K : Nat} {x0 : Int} {x4 : Int} {r : ((List Int) × GoErr)} (H : addr_Put.m K x0 x4 = some r)  :
    Fc Tryz.prog 62 #[iv x0, iv x4] [] B I h (fun v L => ∃ v0, v = .tuple #[.agg (List.map (Value.int .u8) r.1).toArray, v0] ∧ L = [rE .i v0 r.2] ∧ List.length r.1 = 2) := by
 refine fc_of fun E hs => ?_;unfold addr_Put.m at H;refine fn_of2 (rs := [.cell 4 138, .tmp 5]) (N := 61) Tryz.func62 rfl rfl rfl rfl ?_;refine st 2 [] (k_op (nA hs (List.map (Value.int .u8) (List.replicate 2 (0 : Int))) (.agg (List.map (Value.int .u8) (List.replicate 2 (0 : Int))).toArray) ?_));intro b0 h hs;refine st 5 [] ?_;obtain ⟨j0, e1, H⟩ := letJ_some H;refine k_join (fun ρ h => ∃ (x5 : Bool), ∃ I, j0 x5 = some r ∧ Fits [(0, iv x0), (1, iv x4), (4, pv b0), (11, .bool x5)] ρ ∧ St E [rB b0 (List.map (Value.int .u8) (List.replicate 2 (0 : Int))) 138] I h) ?_ ?_
 ·refine st 2 [] (k_call H (fun _ m => addr_sized.calls m) ?_);rintro t2 _ _ H ⟨rfl, rfl⟩;cases t2
  ·rw [cond_false] at H;exact st 3 [] (k_end ⟨true, I, H, ft, hs.pk (.c d0 .n)⟩)
  rw [cond_true] at H;exact st 3 [] (k_end ⟨false, I, H, ft, hs.pk (.c d0 .n)⟩)
 clear H;rintro ρ h ⟨x5, I, H, hf, hs⟩;refine k_fits _ hf ?_ rfl;subst e1;try dsimp only at H
 cases x5;rotate_left
 ·rw [cond_true] at H;refine st 5 [true] (k_op (sAN (l2 := (List.replicate 2 (0 : Int))) hs (List.length_replicate (n := 2) (a := (0 : Int))) (List.length_replicate (n := 2) (a := (0 : Int))) ?_));intro h hs;obtain rfl := si H;exact st 2 [] (k_retQ ⟨[.agg (List.map (Value.int .u8) (List.replicate 2 (0 : Int))).toArray, .iface 75 (iv 1)], (.cons (.agg (by kernel_rfl) (by kernel_rfl) (by kernel_rfl) ((hs.bl d0).arrSeg (List.length_replicate (n := 2) (a := (0 : Int))))) (.cons (.tmp (by kernel_rfl)) .nil)), I, _, ⟨(.iface 75 (iv 1)), rfl, rfl, (List.length_replicate (n := 2) (a := (0 : Int)))⟩, hs.pk (.f imEC .n)⟩)
 rw [cond_false] at H;refine st 2 [false] ?_;obtain ⟨j1, e0, H⟩ := letJ_some H;refine k_join (fun ρ h => ∃ (x6 : Bool), ∃ I, j1 x6 = some r ∧ Fits [(0, iv x0), (1, iv x4), (4, pv b0), (17, .bool x6)] ρ ∧ St E [rB b0 (List.map (Value.int .u8) (List.replicate 2 (0 : Int))) 138] I h) ?_ ?_
 ·refine st 2 [] (k_ite H (fun c4 H => ?_) (fun c4 H => ?_))
  ·exact st 7 [] (k_end ⟨true, I, H, ft, hs.pk (.c d0 .n)⟩)
  refine st 3 [] (k_ite H (fun c5 H => ?_) (fun c5 H => ?_))
  ·exact st 3 [] (k_end ⟨true, I, H, ft, hs.pk (.c d0 .n)⟩)
  exact st 3 [] (k_end ⟨false, I, H, ft, hs.pk (.c d0 .n)⟩)
 clear H;rintro ρ h ⟨x6, I, H, hf, hs⟩;refine k_fits _ hf ?_ rfl;subst e0;try dsimp only at H
 cases x6;rotate_left
 ·rw [cond_true] at H;refine st 5 [true] (k_op (sAN (l2 := (List.replicate 2 (0 : Int))) hs (List.length_replicate (n := 2) (a := (0 : Int))) (List.length_replicate (n := 2) (a := (0 : Int))) ?_));intro h hs;obtain rfl := si H;exact st 2 [] (k_retQ ⟨[.agg (List.map (Value.int .u8) (List.replicate 2 (0 : Int))).toArray, .iface 75 (iv 4)], (.cons (.agg (by kernel_rfl) (by kernel_rfl) (by kernel_rfl) ((hs.bl d0).arrSeg (List.length_replicate (n := 2) (a := (0 : Int))))) (.cons (.tmp (by kernel_rfl)) .nil)), I, _, ⟨(.iface 75 (iv 4)), rfl, rfl, (List.length_replicate (n := 2) (a := (0 : Int)))⟩, hs.pk (.f imEC .n)⟩)
 rw [cond_false] at H;refine st 4 [false] (k_call H (fun _ m => addr_Long.calls m) ?_);rintro t3 _ _ H ⟨rfl, rfl⟩;cases t3;rotate_left
 ·rw [cond_true] at H;refine st 11 [true] (k_op (sAN (l2 := [(IntKind.u8.wrap ((shr .i64 x0 8))), (IntKind.u8.wrap (x0))]) hs (List.length_replicate (n := 2) (a := (0 : Int))) rfl ?_));intro h hs;obtain rfl := si H;exact st 2 [] (k_retQ ⟨[.agg (List.map (Value.int .u8) [(IntKind.u8.wrap ((shr .i64 x0 8))), (IntKind.u8.wrap (x0))]).toArray, .nilIface], (.cons (.agg (by kernel_rfl) (by kernel_rfl) (by kernel_rfl) ((hs.bl d0).arrSeg rfl)) (.cons (.tmp (by kernel_rfl)) .nil)), I, _, ⟨(.nilIface), rfl, rfl, rfl⟩, hs.pk (.f imEN .n)⟩)
 rw [cond_false] at H;refine st 7 [false] (k_op (nA hs (List.map (Value.int .u8) (List.replicate 2 (0 : Int))) (.agg (List.map (Value.int .u8) (List.replicate 2 (0 : Int))).toArray) ?_));intro b1 h hs;refine st 8 [] (k_op (nS (e := 3) hs .i (tInt .i64) ([(shr .i64 x0 6), (bAnd .i64 x0 63)] : List Int) [iv (shr .i64 x0 6), iv (bAnd .i64 x0 63)] 1 (iv 0) (Reps.int (I := (Cl.G .i E.B I)) (k := .i64) (l := [(shr .i64 x0 6), (bAnd .i64 x0 63)])) ?_));intro b2 h hs;refine st 4 [] ?_;obtain ⟨s0, m0, HR0⟩ := bind_some H;refine k_loop 1 (fun k' ρ h => ∃ (x1 : Int) (x2 : List Int), ∃ I, addr_Put.l1.m K x0 k' x1 x2 = some s0 ∧ Fits [(4, pv b0), (6, pv b1), (40, .slice (sa b2) 2 2), (41, iv (2 : Int)), (42, iv x1)] ρ ∧ List.length x2 = 2 ∧ St E [rO (tInt .i64) .i (sa b2) 2 2 [(shr .i64 x0 6), (bAnd .i64 x0 63)], rB b1 (List.map (Value.int .u8) x2) 138, rB b0 (List.map (Value.int .u8) (List.replicate 2 (0 : Int))) 138] I h) (fun ρ h => ∃ (x3 : List Int), ∃ I, Sum.inr x3 = s0 ∧ Fits [(4, pv b0), (6, pv b1)] ρ ∧ List.length x3 = 2 ∧ St E [rB b1 (List.map (Value.int .u8) x3) 138, rB b0 (List.map (Value.int .u8) (List.replicate 2 (0 : Int))) 138] I h) K ⟨0, (List.replicate 2 (0 : Int)), I, m0, ft, (List.length_replicate (n := 2) (a := (0 : Int))), hs.pk (.c d0 (.c d0 (.c d0 .n)))⟩ ?_ rfl ?_;rotate_left
 ·rintro ρ h ⟨x3, I, rfl, hf, hl0, hs⟩;have H := HR0;try dsimp only at H
  refine k_fits _ hf ?_ rfl;refine st 2 [] (k_op (lG ((hs.bl d0).arrSeg hl0) ?_));refine k_op (sAN (l2 := x3) (hs.f d1) (List.length_replicate (n := 2) (a := (0 : Int))) hl0 ?_);intro h hs;obtain rfl := si H;exact st 2 [] (k_retQ ⟨[.agg (List.map (Value.int .u8) x3).toArray, .nilIface], (.cons (.agg (by kernel_rfl) (by kernel_rfl) (by kernel_rfl) ((hs.bl d0).arrSeg hl0)) (.cons (.tmp (by kernel_rfl)) .nil)), I, _, ⟨(.nilIface), rfl, rfl, hl0⟩, hs.pk (.f imEN .n)⟩)
 clear m0 H;rintro k' ρ h ⟨x1, x2, I, H, hf, hl1, hs⟩;cases k' with
 | zero => cases H
 | succ k =>
  rw [addr_Put.l1.m] at H;refine k_fits _ hf ?_ rfl;refine st 1 [] (k_jF H hs (fun x7 => [(4, pv b0), (6, pv b1), (40, .slice (sa b2) 2 2), (41, iv (2 : Int)), (42, iv x1), (43, .bool x7)]) ?_ ?_ ?_)
  ·intro j2 H;refine st 1 [] (k_ite H (fun c6 H => ?_) (fun c6 H => ?_))
   ·exact st 1 [] (k_end ⟨true, I, H, ft, hs⟩)
   exact st 1 [] (k_end ⟨false, I, H, ft, hs⟩)
  ·intro ρ h I H hs;refine st 2 [false] (k_out rfl ?_);obtain rfl := si H;exact xE ⟨x2, I, rfl, ft, hl1, hs.pk (.c d1 (.c d1 .n))⟩
  intro ρ h I H hs;obtain ⟨c0, H⟩ := guard_pos H;obtain ⟨c2, H⟩ := guard_pos H;refine st 8 [true] (k_val (elemPtr (sa b2) (x1.toNat * 1)) (pI (e := 3) (ik := .i64) (hs.sO d0) c0 c2) ?_);refine k_op (lC ((hs.sO d0).cell1 c0 c2) ?_);obtain ⟨hk, bk⟩ := hs.call tk0 .n;refine st 6 [] (k_call H (fun _ m => six_Put.calls m hk) ?_);rintro t0 _ h H ⟨I, _, ⟨v1, rfl, rfl⟩, hk⟩;replace hs := bk hk ct1 rfl;rcases (hs.er d0).cases with ⟨c1, rfl⟩ | ⟨c1, t1, u0, rfl⟩
  ·rw [if_pos c1] at H;obtain ⟨c3, H⟩ := guard_pos H;refine st 17 [false] (k_val (elemPtr (sa b1) (x1.toNat * 1)) (pr_indexArr (e := 5) (kk := .i64) (n := 2) (by kernel_rfl) (by kernel_rfl) (by kernel_rfl) (by kernel_rfl) c0 c3) ?_);refine k_op (sA (hs.f d2) t0.1 hl1 c0 c3 ?_);intro h hs;exact st 6 [] (k_endL ⟨k, Nat.lt_succ_self _, (w64 (x1 + 1)), (x2.set x1.toNat t0.1), I, H, ft, (len_set hl1), hs.pk (.c d2 (.c d0 (.c d1 .n)))⟩)
  rw [if_neg c1] at H;refine st 17 [true] (k_op (sAN (l2 := (List.replicate 2 (0 : Int))) (hs.f d3) (List.length_replicate (n := 2) (a := (0 : Int))) (List.length_replicate (n := 2) (a := (0 : Int))) ?_));intro h hs;refine st 2 [] (k_retQ (krL ?_));obtain rfl := si H;obtain rfl := Option.some.inj HR0;exact ⟨[.agg (List.map (Value.int .u8) (List.replicate 2 (0 : Int))).toArray, (.iface t1 u0)], (.cons (.agg (by kernel_rfl) (by kernel_rfl) (by kernel_rfl) ((hs.bl d0).arrSeg (List.length_replicate (n := 2) (a := (0 : Int))))) (.cons (.tmp (by kernel_rfl)) .nil)), I, _, ⟨((.iface t1 u0)), rfl, rfl, (List.length_replicate (n := 2) (a := (0 : Int)))⟩, hs.pk (.c d1 .n)⟩
def input_place.m (K : Nat) (x0 : Int) (x1 : Int) : Option (List Int) :=
  ((addr_Put.m K x0 x1).bind fun t0 => (some t0.1))
theorem input_place.calls {B I : Gh} {h : Heap} {K : Nat} {x0 : Int} {x1 : Int} {r : (List Int)} (H : input_place.m K x0 x1 = some r)  :
    Fc Tryz.prog 27 #[iv x0, iv x1] [] B I h (fun v L => ∃ a0 p0 n0, v = .slice a0 n0 p0 ∧ L = [rR (tInt .u8) .i a0 p0 n0 r]) := by
 refine fc_of fun E hs => ?_;unfold input_place.m at H;refine fn_of (rs := [.tmp 4]) (N := 14) Tryz.func27 rfl rfl rfl rfl ?_;obtain ⟨hk, bk⟩ := hs.call tk0 .n;refine st 8 [] (k_call H (fun _ m => addr_Put.calls m hk) ?_);rintro t0 _ h H ⟨I, _, ⟨v0, rfl, rfl, hl0⟩, hk⟩;replace hs := bk hk ct1 rfl;refine st 3 [] (k_op (nA hs (List.map (Value.int .u8) (List.replicate 2 (0 : Int))) (.agg (List.map (Value.int .u8) (List.replicate 2 (0 : Int))).toArray) ?_));intro b0 h hs;refine k_op (sAN (l2 := t0.1) hs (List.length_replicate (n := 2) (a := (0 : Int))) hl0 ?_);intro h hs;obtain ⟨I, hs⟩ := hs.fA hl0;obtain rfl := si H;exact st 7 [] (k_retQ ⟨_, by kernel_rfl, I, _, ⟨(sa b0), 2, 2, rfl, rfl⟩, hs.pk (.c d0 .n)⟩)
def input_Write.l1.m (K : Nat) (x1 : api_In) (x2 : Int) : Nat → (List Int) → Int → Option ((List Int))
  | 0, _, _ => none
  | k + 1, x3, x0 => (letJ (α := Bool → Option ((List Int))) (fun x4 => (bif x4 then (if 0 ≤ x0 then (if x0 < (x1.Fields.length : Int) then (letJ (α := Bool → Option ((List Int))) (fun x5 => (bif x5 then ((app x3 [17]).bind fun l0 => ((input_place.m K ((at_ x1.Fields x0).Addr) x2).bind fun t0 => ((app l0 t0).bind fun l1 => ((app l1 ((at_ x1.Fields x0).Text)).bind fun l2 => (input_Write.l1.m K x1 x2 k l2 (w64 (x0 + 1))))))) else ((app x3 ((at_ x1.Fields x0).Text)).bind fun l3 => (input_Write.l1.m K x1 x2 k l3 (w64 (x0 + 1)))))) fun j1 => (if (at_ x1.Fields x0).Addr = (-1) then (j1 false) else (j1 true))) else none) else none) else (some (x3)))) fun j0 => (if x0 < (x1.Fields.length : Int) then (j0 true) else (j0 false)))
def input_Write.m (K : Nat) (x0 : api_In) (x1 : Int) : Option ((List Int) × GoErr) :=
  ((input_Right.m K x0 x1).bind fun t0 => (if t0 = GoErr.nil then ((attr_Bare.m x0.Aid).bind fun t1 => bif t1 then (some ([x0.Aid], GoErr.nil)) else ((input_place.m K x0.Cursor x1).bind fun t2 => ((app [x0.Aid] t2).bind fun l0 => ((input_Write.l1.m K x0 x1 K l0 0).bind fun x2 => (if (x2.length : Int) > 8192 then (some ([], (GoErr.no 6))) else (some (x2, GoErr.nil))))))) else (some ([], t0))))
theorem input_Write.calls {B I : Gh} {h : Heap} {K : Nat} {x0 : api_In} {x3 : Int} {a0 : Option Addr} {p0 : Nat} {n3 : Nat} {r : ((List Int) × GoErr)} (H : input_Write.m K x0 x3 = some r)  :
    Fc Tryz.prog 10 #[.agg #[.int .u8 x0.Aid, iv x0.Cursor, .slice a0 n3 p0], iv x3] [rR t_api_Entry .b a0 p0 n3 x0.Fields] B I h (fun v L => ∃ a3 p3 n2 v0, v = .tuple #[.slice a3 n2 p3, v0] ∧ L = [rO (tInt .u8) .i a3 p3 n2 r.1, rE .i v0 r.2]) := by
 refine fc_of fun E hs => ?_;unfold input_Write.m at H;cases hs.nR d0;refine fn_of (rs := [.tmp 4, .tmp 5]) (N := 57) Tryz.func10 rfl rfl rfl rfl ?_;refine st 2 [] (k_op (nB hs [.int .u8 x0.Aid, iv x0.Cursor, .slice a0 x0.Fields.length p0] ?_));intro b2 h hs;refine st 6 [] (k_op (lN (hs.bl d0) 0 3 ?_));obtain ⟨hk, bk⟩ := hs.call tk0 (.c (qB d1) .n);refine st 1 [] (k_call H (fun _ m => input_Right.calls m hk) ?_);rintro t2 v1 h H ⟨I, _, ⟨_, rfl, rfl⟩, hk⟩;replace hs := bk hk ct1 rfl;rcases (hs.er d0).cases with ⟨c0, rfl⟩ | ⟨c0, t0, u0, rfl⟩;rotate_left
 ·rw [if_neg c0] at H;obtain rfl := si H;exact st 14 [true] (k_retQ ⟨_, by kernel_rfl, I, _, ⟨none, 0, 0, ((.iface t0 u0)), rfl, rfl⟩, hs.pk (.f imON (.c d0 .n))⟩)
 rw [if_pos c0] at H;refine st 12 [false] (k_op (lB (hs.bl d1) 0 rfl ?_));refine k_op (nS (e := 5) hs .i (tInt .u8) ([x0.Aid] : List Int) [.int .u8 x0.Aid] 1 (.int .u8 0) (Reps.int (I := (Cl.G .i E.B I)) (k := .u8) (l := [x0.Aid])) ?_);intro b0 h hs;refine st 6 [] (k_op (lB (hs.bl d2) 0 rfl ?_));refine k_call H (fun _ m => attr_Bare.calls m) ?_;rintro t1 _ _ H ⟨rfl, rfl⟩;cases t1;rotate_left
 ·rw [cond_true] at H;obtain rfl := si H;exact st 8 [true] (k_retQ ⟨_, by kernel_rfl, I, _, ⟨(sa b0), 1, 1, (.nilIface), rfl, rfl⟩, hs.pk (.c d0 (.f imEN .n))⟩)
 rw [cond_false] at H;refine st 7 [false] (k_op (lB (hs.bl d2) 1 rfl ?_));obtain ⟨hk, bk⟩ := hs.call tk0 .n;refine st 1 [] (k_call H (fun _ m => input_place.calls m hk) ?_);rintro t3 _ h H ⟨I, _, ⟨a9, p9, n4, rfl, rfl⟩, hk⟩;replace hs := bk hk ct1 rfl;cases hs.nR d0;replace hs := (hs.f d1);obtain ⟨l0, m1, H⟩ := bind_some H;refine k_op (aO (e := 5) (bytes := 1) hs (hs.sR d1) m1 ?_);intro a5 p5 h hs;refine st 6 [] (k_op (lB (hs.bl d3) 2 rfl ?_));refine st 4 [] ?_;obtain ⟨s0, m0, HR0⟩ := bind_some H;refine k_loopT hs tl1 0 (fun T k' ρ h => ∃ (x2 : List Int) (x1 : Int), ∃ a1 p1 n0 I, input_Write.l1.m K x0 x3 k' x2 x1 = some s0 ∧ Fits [(1, iv x3), (7, .slice a1 n0 p1), (30, .slice a0 x0.Fields.length p0), (31, iv (x0.Fields.length : Int)), (32, iv x1)] ρ ∧ St E (rO (tInt .u8) .i a1 p1 n0 x2 :: T) I h) (fun T ρ h => ∃ (x4 : List Int), ∃ a2 p2 n1 I, x4 = s0 ∧ Fits [(7, .slice a2 n1 p2)] ρ ∧ St E (rO (tInt .u8) .i a2 p2 n1 x4 :: T) I h) K ⟨l0, 0, a5, p5, l0.length, I, m0, ft, hs.pk (.c d0 pk0)⟩ ?_ rfl ?_;rotate_left
 ·rintro ρ h ⟨x4, a2, p2, n1, I, rfl, hf, hs⟩;have H := HR0;try dsimp only at H
  refine k_fits _ hf ?_ rfl;cases hs.nO d0;refine st 5 [] (k_ite H (fun c3 H => ?_) (fun c3 H => ?_))
  ·obtain rfl := si H;exact st 8 [true] (k_retQ ⟨_, by kernel_rfl, I, _, ⟨none, 0, 0, (.iface 75 (iv 6)), rfl, rfl⟩, hs.pk (.f imON (.f imEC .n))⟩)
  obtain rfl := si H;exact st 9 [false] (k_retQ ⟨_, by kernel_rfl, I, _, ⟨a2, p2, x4.length, (.nilIface), rfl, rfl⟩, hs.pk (.c d0 (.f imEN .n))⟩)
 clear HR0 m0 H;rintro k' ρ h ⟨x2, x1, a1, p1, n0, I, H, hf, hs⟩;cases k' with
 | zero => cases H
 | succ k =>
  rw [input_Write.l1.m] at H;refine k_fits _ hf ?_ rfl;cases hs.nO d0;refine st 1 [] (k_jF H hs (fun x5 => [(1, iv x3), (7, .slice a1 x2.length p1), (30, .slice a0 x0.Fields.length p0), (31, iv (x0.Fields.length : Int)), (32, iv x1), (33, .bool x5)]) ?_ ?_ ?_)
  ·intro j0 H;refine st 1 [] (k_ite H (fun c4 H => ?_) (fun c4 H => ?_))
   ·exact st 1 [] (k_end ⟨true, I, H, ft, hs⟩)
   exact st 1 [] (k_end ⟨false, I, H, ft, hs⟩)
  ·intro ρ h I H hs;refine st 2 [false] (k_out rfl ?_);obtain rfl := si H;exact xE ⟨x2, a1, p1, x2.length, I, rfl, ft, hs.pk (.c d0 pk0)⟩
  intro ρ h I H hs;obtain ⟨c1, H⟩ := guard_pos H;obtain ⟨c2, H⟩ := guard_pos H;refine st 7 [true] (k_val (elemPtr a0 (x1.toNat * 2)) (pI (e := 51) (ik := .i64) (hs.sR d4) c1 c2) ?_);obtain ⟨y0, g0, q1⟩ := (hs.sR d4).toSl.seg c1 c2;obtain ⟨a6, p6, n5, rfl, q0⟩ := t_api_Entry.open_ q1;obtain rfl := q0.2;replace hs := hs.pR q0;refine k_op (lG g0 ?_);refine k_op (nA hs [iv 0, .slice none 0 0] (.agg #[iv 0, .slice none 0 0]) ?_);intro b1 h hs;refine k_op (sN0 hs [iv ((at_ x0.Fields x1).Addr), .slice a6 (((at_ x0.Fields x1).Text).length) p6] (ones_of rfl) ?_);intro h hs;refine st 3 [] (k_jF H hs (fun x6 => [(1, iv x3), (7, .slice a1 x2.length p1), (9, pv b1), (30, .slice a0 x0.Fields.length p0), (31, iv (x0.Fields.length : Int)), (32, iv x1), (38, .bool x6)]) ?_ ?_ ?_)
  ·intro j1 H;refine st 2 [] (k_op (lB (hs.bl d0) 0 rfl ?_));refine k_iteN H (fun c5 H => ?_) (fun c5 H => ?_)
   ·exact st 1 [] (k_end ⟨false, I, H, ft, hs⟩)
   exact st 1 [] (k_end ⟨true, I, H, ft, hs⟩)
  ·intro ρ h I H hs;refine st 5 [false] (k_op (lB (hs.bl d0) 1 rfl ?_));replace hs := (hs.f d2);obtain ⟨l2, m5, H⟩ := bind_some H;refine k_op (aO (e := 5) (bytes := 1) hs ((hs.sR d2).flat flat_int) m5 ?_);intro a4 p4 h hs;exact st 7 [] (k_endL ⟨k, Nat.lt_succ_self _, l2, (w64 (x1 + 1)), a4, p4, l2.length, I, H, ft, hs.pk (.c d0 pk2)⟩)
  intro ρ h I H hs;refine st 1 [true] ?_;obtain ⟨hs0, bk0⟩ := (hs.f d2).call tk1 (.c (qL d0) .n);have hs := hs0;refine k_regD hs0 6 ?_;refine aRun [0, 3] 7 hs.keep ?_;refine aL 4 rfl hs.keep (ll hs0 d1 (n := 0) rfl) (nmL hs0 d1) ?_;refine aRun [5] 5 hs.keep ?_;refine aO1 1 rfl (nS (e := 5) hs .i (tInt .u8) ([17] : List Int) [.int .u8 17] 1 (.int .u8 0) (Reps.int (I := (Cl.G .i E.B I)) (k := .u8) (l := [17])) ?_);intro b3 h hs;refine ⟨hs.keep, ?_⟩;replace hs := (hs.f d1);obtain ⟨l4, m2, H⟩ := bind_some H;refine aO1 2 rfl (aO (e := 5) (bytes := 1) hs (hs.sO d1) m2 ?_);intro aB pA h hs;refine ⟨hs.keep, ?_⟩;replace hs := hs.pk (.c d0 (.c d0 .n));replace hs := bk0 hs ct2 rfl;obtain ⟨hk, bk⟩ := hs.call tk0 .n;refine aOL 6 rfl (o_call H (fun _ m => input_place.calls m hk) ?_);rintro t4 _ h H ⟨I, _, ⟨aC, pB, n6, rfl, rfl⟩, hk⟩;replace hs := bk hk ct1 rfl;cases hs.nR d0;replace hs := (hs.f d1);obtain ⟨l3, m3, H⟩ := bind_some H;refine aOL 7 rfl (aO (e := 5) (bytes := 1) hs (hs.sR d1) m3 ?_);intro a7 p7 h hs;refine aOL 8 rfl (owp_pure (.slice a7 l3.length p7) (by kernel_rfl) ?_);refine aEnd ?_;refine st 3 [] (k_op (lB (hs.bl d3) 1 rfl ?_));obtain ⟨l1, m4, H⟩ := bind_some H;refine k_op (aO (e := 5) (bytes := 1) hs ((hs.sR d4).flat flat_int) m4 ?_);intro a8 p8 h hs;exact st 7 [] (k_endL ⟨k, Nat.lt_succ_self _, l1, (w64 (x1 + 1)), a8, p8, l1.length, I, H, ft, hs.pk (.c d0 pk4)⟩)
def attr_sum.l1.m (K : Nat) (x1 : (List Anon_is_n)) : Nat → Int → Int → Option (Int)
  | 0, _, _ => none
  | k + 1, x2, x0 => (letJ (α := Bool → Option (Int)) (fun x3 => (bif x3 then (if 0 ≤ x0 then (if x0 < (x1.length : Int) then (bif (at_ x1 x0).is' then none else (attr_sum.l1.m K x1 k x2 (w64 (x0 + 1)))) else none) else none) else (some (x2)))) fun j0 => (if x0 < (x1.length : Int) then (j0 true) else (j0 false)))
def attr_sum.m (K : Nat) (x0 : (List Anon_is_n)) : Option Int :=
  ((attr_sum.l1.m K x0 K 0 0).bind fun x1 => (some x1))
theorem attr_sum.calls {B I : Gh} {h : Heap} {K : Nat} {x0 : (List Anon_is_n)} {a0 : Option Addr} {p0 : Nat} {n0 : Nat} {r : Int} (H : attr_sum.m K x0 = some r)  :
    Fc Tryz.prog 80 #[.slice a0 n0 p0] [rR t_Anon_is_n .b a0 p0 n0 x0] B I h (fun v L => v = iv r ∧ L = []) := by
 refine fc_of fun E hs => ?_;unfold attr_sum.m at H;cases hs.nR d0;refine fn_of (rs := [.tmp 2]) (N := 20) Tryz.func80 rfl rfl rfl rfl ?_;refine st 16 [] ?_;obtain ⟨s0, m0, HR0⟩ := bind_some H;refine k_loop 0 (fun k' ρ h => ∃ (x2 : Int) (x1 : Int), ∃ I, attr_sum.l1.m K x0 k' x2 x1 = some s0 ∧ Fits [(3, iv x2), (6, .slice a0 x0.length p0), (7, iv (x0.length : Int)), (8, iv x1)] ρ ∧ St E [rR t_Anon_is_n .b a0 p0 x0.length x0] I h) (fun ρ h => ∃ (x4 : Int), ∃ I, x4 = s0 ∧ Fits [(3, iv x4)] ρ ∧ St E [rR t_Anon_is_n .b a0 p0 x0.length x0] I h) K ⟨0, 0, I, m0, ft, hs.pk (.c d0 .n)⟩ ?_ rfl ?_;rotate_left
 ·rintro ρ h ⟨x4, I, rfl, hf, hs⟩;have H := HR0;try dsimp only at H
  refine k_fits _ hf ?_ rfl;obtain rfl := si H;exact st 5 [] (k_retQ ⟨_, by kernel_rfl, I, _, ⟨rfl, rfl⟩, hs.pk .n⟩)
 clear HR0 m0 H;rintro k' ρ h ⟨x2, x1, I, H, hf, hs⟩;cases k' with
 | zero => cases H
 | succ k =>
  rw [attr_sum.l1.m] at H;refine k_fits _ hf ?_ rfl;refine st 1 [] ?_;obtain ⟨j0, e0, H⟩ := letJ_some H;refine k_join (fun ρ h => ∃ (x3 : Bool), ∃ I, j0 x3 = some s0 ∧ Fits [(3, iv x2), (6, .slice a0 x0.length p0), (7, iv (x0.length : Int)), (8, iv x1), (9, .bool x3)] ρ ∧ St E [rR t_Anon_is_n .b a0 p0 x0.length x0] I h) ?_ ?_
  ·refine st 1 [] (k_ite H (fun c2 H => ?_) (fun c2 H => ?_))
   ·exact st 1 [] (k_end ⟨true, I, H, ft, hs.pk (.c d0 .n)⟩)
   exact st 1 [] (k_end ⟨false, I, H, ft, hs.pk (.c d0 .n)⟩)
  clear H;rintro ρ h ⟨x3, I, H, hf, hs⟩;refine k_fits _ hf ?_ rfl;subst e0;try dsimp only at H
  cases x3
  ·rw [cond_false] at H;refine st 2 [false] (k_out rfl ?_);obtain rfl := si H;exact xE ⟨x2, I, rfl, ft, hs.pk (.c d0 .n)⟩
  rw [cond_true] at H;obtain ⟨c0, H⟩ := guard_pos H;obtain ⟨c1, H⟩ := guard_pos H;refine st 7 [true] (k_val (elemPtr a0 (x1.toNat * 2)) (pI (e := 174) (ik := .i64) (hs.sR d0) c0 c1) ?_);obtain ⟨y0, g0, q0⟩ := (hs.sR d0).toSl.seg c0 c1;obtain rfl := t_Anon_is_n.open_ q0;refine k_op (lG g0 ?_);refine k_op (nA hs [.bool false, iv 0] (.agg #[.bool false, iv 0]) ?_);intro b0 h hs;refine k_op (sN0 hs [.bool ((at_ x0 x1).is'), iv ((at_ x0 x1).n')] (ones_of rfl) ?_);intro h hs;refine st 4 [] (k_op (lB (hs.bl d0) 0 rfl ?_));refine k_spl H (fun c3 H => ?_) (fun c3 H => ?_)
  ·cases H
  exact st 8 [false] (k_endL ⟨k, Nat.lt_succ_self _, x2, (w64 (x1 + 1)), I, H, ft, hs.pk (.c d1 .n)⟩)
def attr_bit.m (x0 : Bool) (x1 : Int) : Option Anon_is_n :=
  (some (⟨x0, x1⟩ : Anon_is_n))
theorem attr_bit.calls {B I : Gh} {h : Heap} {x0 : Bool} {x1 : Int} {r : Anon_is_n} (H : attr_bit.m x0 x1 = some r)  :
    Fc Tryz.prog 81 #[.bool x0, iv x1] [] B I h (fun v L => v = .agg #[.bool r.is', iv r.n'] ∧ L = []) := by
 refine fc_of fun E hs => ?_;unfold attr_bit.m at H;refine fn_of2 (rs := [.cell 4 174]) (N := 8) Tryz.func81 rfl rfl rfl rfl ?_;refine st 2 [] (k_op (nA hs [.bool false, iv 0] (.agg #[.bool false, iv 0]) ?_));intro b0 h hs;refine st 6 [] (k_op (sN0 hs [.bool x0, iv x1] (ones_of rfl) ?_));intro h hs;obtain rfl := si H;exact st 1 [] (k_retQ ⟨[.agg #[.bool x0, iv x1]], (.cons (.agg (by kernel_rfl) (by kernel_rfl) (by kernel_rfl) ((hs.bl d0).seg_ 0 2 (Nat.le_of_ble_eq_true rfl))) .nil), I, _, ⟨rfl, rfl⟩, hs.pk .n⟩)
def attr_Put.m (K : Nat) (x0 : api_Attr) : Option (Int × GoErr) :=
  (if x0.Show < 0 then none else (if x0.Show > 3 then none else ((attr_bit.m x0.Protected 32).bind fun t1 => ((attr_bit.m x0.Numeric 16).bind fun t2 => ((attr_bit.m x0.Modified 1).bind fun t3 => ((attr_sum.m K [t1, t2, t3]).bind fun t4 => ((six_Put.m (w64 (t4 + (w64 (4 * x0.Show))))).bind fun t0 => (some (t0.1, t0.2)))))))))
theorem attr_Put.calls {B I : Gh} {h : Heap} {K : Nat} {x0 : api_Attr} {r : (Int × GoErr)} (H : attr_Put.m K x0 = some r)  :
    Fc Tryz.prog 48 #[.agg (cl_api_Attr x0).toArray] [] B I h (fun v L => ∃ v0, v = .tuple #[.int .u8 r.1, v0] ∧ L = [rE .i v0 r.2]) := by
 refine fc_of fun E hs => ?_;unfold attr_Put.m at H;refine fn_of (rs := [.tmp 2, .tmp 3]) (N := 31) Tryz.func48 rfl rfl rfl rfl ?_;refine st 2 [] (k_op (nB hs (cl_api_Attr x0) ?_));intro b0 h hs;refine st 7 [] (k_op (lB (hs.bl d0) 2 rfl ?_));refine k_ite H (fun c0 H => ?_) (fun c0 H => ?_)
 ·cases H
 refine st 2 [] (k_op (lB (hs.bl d0) 2 rfl ?_));refine k_ite H (fun c1 H => ?_) (fun c1 H => ?_)
 ·cases H
 refine st 5 [false] ?_;obtain ⟨hs0, bk0⟩ := hs.call tk0 (.c (qL d0) .n);have hs := hs0;refine k_regD hs0 20 ?_;refine aRun [0] 19 hs.keep ?_;refine aL 1 rfl hs.keep (ll hs0 d0 (n := 0) rfl) (nmL hs0 d0) ?_;refine aRun [3] 17 hs.keep ?_;refine aL 4 rfl hs.keep (ll hs0 d0 (n := 1) rfl) (nmL hs0 d0) ?_;refine aRun [6] 15 hs.keep ?_;refine aL 7 rfl hs.keep (ll hs0 d0 (n := 3) rfl) (nmL hs0 d0) ?_;refine aRun [11] 13 hs.keep ?_;refine aL 12 rfl hs.keep (ll hs0 d0 (n := 2) rfl) (nmL hs0 d0) ?_;refine aRun [13] 11 hs.keep ?_;obtain ⟨hk, bk⟩ := hs.call tk0 .n;refine aO1 2 rfl (o_call H (fun _ m => attr_bit.calls m hk) ?_);rintro t0 _ h H ⟨I, _, ⟨rfl, rfl⟩, hk⟩;replace hs := bk hk ct0 rfl;refine ⟨hs.keep, ?_⟩;obtain ⟨hk, bk⟩ := hs.call tk0 .n;refine aO1 5 rfl (o_call H (fun _ m => attr_bit.calls m hk) ?_);rintro t1 _ h H ⟨I, _, ⟨rfl, rfl⟩, hk⟩;replace hs := bk hk ct0 rfl;refine ⟨hs.keep, ?_⟩;obtain ⟨hk, bk⟩ := hs.call tk0 .n;refine aO1 8 rfl (o_call H (fun _ m => attr_bit.calls m hk) ?_);rintro t2 _ h H ⟨I, _, ⟨rfl, rfl⟩, hk⟩;replace hs := bk hk ct0 rfl;refine ⟨hs.keep, ?_⟩;refine aO1 9 rfl (nS (e := 174) hs .i t_Anon_is_n ([t0, t1, t2] : List Anon_is_n) [.bool t0.is', iv t0.n', .bool t1.is', iv t1.n', .bool t2.is', iv t2.n'] 2 (.agg #[.bool false, iv 0]) (Reps.cons (T := t_Anon_is_n) (c := [.bool t0.is', iv t0.n']) (x := t0) rfl (Reps.cons (T := t_Anon_is_n) (c := [.bool t1.is', iv t1.n']) (x := t1) rfl (Reps.cons (T := t_Anon_is_n) (c := [.bool t2.is', iv t2.n']) (x := t2) rfl (.nil : Reps t_Anon_is_n (Cl.G .i E.B I) h [] [])))) ?_);intro b1 h hs;refine ⟨hs.keep, ?_⟩;obtain ⟨hk, bk⟩ := hs.call tk0 (.c (qO d0) .n);refine aO1 10 rfl (o_call H (fun _ m => attr_sum.calls m hk) ?_);rintro t3 _ h H ⟨I, _, ⟨rfl, rfl⟩, hk⟩;replace hs := bk hk ct0 rfl;refine ⟨hs.keep, ?_⟩;refine aRun [14] 5 hs.keep ?_;obtain ⟨hk, bk⟩ := hs.call tk0 .n;refine aO1 15 rfl (o_call H (fun _ m => six_Put.calls m hk) ?_);rintro t4 _ h H ⟨I, _, ⟨v1, rfl, rfl⟩, hk⟩;replace hs := bk hk ct1 rfl;refine ⟨hs.keep, ?_⟩;refine aRun [16, 17, 18, 19] 0 hs.keep ?_;replace hs := hs.pk (.c d0 (.c d0 .n));replace hs := bk0 hs ct2 rfl;refine aEnd ?_;obtain rfl := si H;exact k_retQ ⟨_, by kernel_rfl, I, _, ⟨(v1), rfl, rfl⟩, hs.pk (.c d0 .n)⟩
def read_Reply.m (K : Nat) (x0 : api_Screen) (x1 : Int) (x2 : Int) : Option ((List Int) × GoErr) :=
  (if x1 = 246 then ((read_Modified.m K x0 x2).bind fun t0 => (if t0.2 = GoErr.nil then ((grid_Size.m x0).bind fun t2 => ((input_Write.m K t0.1 t2).bind fun t1 => (some (t1.1, t1.2)))) else none)) else none)
theorem read_Reply.calls {B I : Gh} {h : Heap} {K : Nat} {x0 : api_Screen} {x1 : Int} {x2 : Int} {a0 : Option Addr} {p0 : Nat} {n0 : Nat} {r : ((List Int) × GoErr)} (H : read_Reply.m K x0 x1 x2 = some r)  :
    Fc Tryz.prog 158 #[.agg (cl_api_Screen x0 a0 n0 p0).toArray, iv x1, .int .u8 x2] [rR t_api_Cell .b a0 p0 n0 x0.Cells] B I h (fun v L => ∃ a1 p1 n1 v0, v = .tuple #[.slice a1 n1 p1, v0] ∧ L = [rO (tInt .u8) .i a1 p1 n1 r.1, rE .i v0 r.2]) := by
 refine fc_of fun E hs => ?_;unfold read_Reply.m at H;cases hs.nR d0;refine fn_of (rs := [.tmp 6, .tmp 7]) (N := 39) Tryz.func158 rfl rfl rfl rfl ?_;refine st 2 [] (k_op (nB hs (cl_api_Screen x0 a0 x0.Cells.length p0) ?_));intro b0 h hs;refine st 11 [] (k_ite H (fun c1 H => ?_) (fun c1 H => ?_));rotate_left
 ·cases H
 refine st 5 [true] (k_op (lN (hs.bl d0) 0 6 ?_));obtain ⟨hk, bk⟩ := hs.call tk0 (.c (qB d1) .n);refine st 1 [] (k_call H (fun _ m => read_Modified.calls m hk) ?_);rintro t0 _ h H ⟨I, _, ⟨a2, p2, n2, v2, rfl, rfl⟩, hk⟩;replace hs := bk hk ct2 rfl;cases hs.nO d0;refine st 3 [] (k_op (nA hs [.int .u8 0, iv 0, .slice none 0 0] (.agg #[.int .u8 0, iv 0, .slice none 0 0]) ?_));intro b1 h hs;refine k_op (sN0 hs [.int .u8 t0.1.Aid, iv t0.1.Cursor, .slice a2 t0.1.Fields.length p2] (ones_of rfl) ?_);intro h hs;rcases (hs.er d2).cases with ⟨c0, rfl⟩ | ⟨c0, t2, u0, rfl⟩;rotate_left
 ·rw [if_neg c0] at H;cases H
 rw [if_pos c0] at H;refine st 11 [false] ?_;obtain ⟨hs0, bk0⟩ := hs.call tk0 (.c (qL d0) (.c (qL d3) (.c (qB d4) (.c (qO d1) .n))));have hs := hs0;refine k_regD hs0 8 ?_;refine aG 0 rfl hs.keep (lls hs0 d0 0 3 rfl) (nmL hs0 d0) ?_;refine aG 1 rfl hs.keep (lls hs0 d1 0 6 rfl) (nmL hs0 d1) ?_;obtain ⟨hk, bk⟩ := hs.call tk0 (.c (qB d2) .n);refine aO1 2 rfl (o_call H (fun _ m => grid_Size.calls m hk) ?_);rintro t3 _ h H ⟨I, _, ⟨rfl, rfl⟩, hk⟩;replace hs := bk hk ct0 rfl;refine ⟨hs.keep, ?_⟩;obtain ⟨hk, bk⟩ := hs.call tk0 (.c (qB d3) .n);refine aO1 3 rfl (o_call H (fun _ m => input_Write.calls m hk) ?_);rintro t1 _ h H ⟨I, _, ⟨a3, p3, n3, v1, rfl, rfl⟩, hk⟩;replace hs := bk hk ct2 rfl;cases hs.nO d0;refine ⟨hs.keep, ?_⟩;refine aRun [4, 5, 6, 7] 0 hs.keep ?_;replace hs := hs.pk (.c d0 (.c d0 .n));replace hs := bk0 hs ct2 rfl;refine aEnd ?_;obtain rfl := si H;exact k_retQ ⟨_, by kernel_rfl, I, _, ⟨a3, p3, t1.1.length, (v1), rfl, rfl⟩, hs.pk (.c d0 (.c d0 .n))⟩
def line_Line_room.m (x0 : line_Line) (x1 : Int) : Option (Bool × line_Line) :=
  (some ((decide (x1 ≤ (w64 (200 - (x0.queue'.length : Int))))), x0))
theorem line_Line_room.calls {B I : Gh} {h : Heap} {x0 : line_Line} {x1 : Int} {b0 : Nat} {a0 : Option Addr} {p0 : Nat} {n0 : Nat} {v0 : Value} {v1 : Value} {r : (Bool × line_Line)} (H : line_Line_room.m x0 x1 = some r)  :
    Fc Tryz.prog 163 #[pv b0, iv x1] [rB b0 [.slice a0 n0 p0, iv x0.given', iv x0.await', v0, v1, iv x0.wait', iv x0.left', .bool x0.owes'] 210, rO t_api_Pack .i a0 p0 n0 x0.queue'] B I h (fun v L => ∃ a1 p1 n1, v = .bool r.1 ∧ L = [rB b0 [.slice a1 n1 p1, iv r.2.given', iv r.2.await', v0, v1, iv r.2.wait', iv r.2.left', .bool r.2.owes'] 210, rO t_api_Pack .i a1 p1 n1 r.2.queue']) := by
 refine fc_of fun E hs => ?_;unfold line_Line_room.m at H;cases hs.nO d1;refine fn_of (rs := [.tmp 4]) (N := 13) Tryz.func163 rfl rfl rfl rfl ?_;refine st 10 [] (k_op (lB (hs.bl d0) 0 rfl ?_));obtain rfl := si H;exact st 5 [] (k_retQ ⟨_, by kernel_rfl, I, _, ⟨a0, p0, x0.queue'.length, rfl, rfl⟩, hs.pk (.c d0 (.c d0 .n))⟩)
def line_Line_Room.m (x0 : line_Line) (x1 : Int) : Option (Bool × line_Line) :=
  (if x1 ≥ 1 then (if x1 ≤ 8192 then ((line_Line_room.m x0 (w64 (Int.tdiv (w64 ((w64 (x1 + 64)) - 1)) 64))).bind fun t0 => (some (t0.1, (⟨t0.2.queue', t0.2.given', t0.2.await', x0.kept', x0.coming', t0.2.wait', t0.2.left', t0.2.owes'⟩ : line_Line)))) else none) else none)
theorem line_Line_Room.calls {B I : Gh} {h : Heap} {x0 : line_Line} {x1 : Int} {b0 : Nat} {a0 : Option Addr} {p0 : Nat} {n0 : Nat} {v0 : Value} {v1 : Value} {r : (Bool × line_Line)} (H : line_Line_Room.m x0 x1 = some r)  :
    Fc Tryz.prog 182 #[pv b0, iv x1] [rB b0 [.slice a0 n0 p0, iv x0.given', iv x0.await', v0, v1, iv x0.wait', iv x0.left', .bool x0.owes'] 210, rO t_api_Pack .i a0 p0 n0 x0.queue'] B I h (fun v L => ∃ a1 p1 n1, v = .bool r.1 ∧ L = [rB b0 [.slice a1 n1 p1, iv r.2.given', iv r.2.await', v0, v1, iv r.2.wait', iv r.2.left', .bool r.2.owes'] 210, rO t_api_Pack .i a1 p1 n1 r.2.queue']) := by
 refine fc_of fun E hs => ?_;unfold line_Line_Room.m at H;cases hs.nO d1;refine fn_of (rs := [.tmp 4]) (N := 19) Tryz.func182 rfl rfl rfl rfl ?_;refine st 7 [] (k_ite H (fun c0 H => ?_) (fun c0 H => ?_));rotate_left
 ·cases H
 refine st 2 [] (k_ite H (fun c1 H => ?_) (fun c1 H => ?_));rotate_left
 ·cases H
 obtain ⟨hk, bk⟩ := ((hs.f d1).f d1).call tk2 .n;refine st 7 [] (k_call H (fun _ m => line_Line_room.calls m hk) ?_);rintro t0 _ h H ⟨I, _, ⟨a2, p2, n2, rfl, rfl⟩, hk⟩;replace hs := bk hk ct2 rfl;cases hs.nO d1;obtain rfl := si H;exact st 3 [] (k_retQ ⟨_, by kernel_rfl, I, _, ⟨a2, p2, t0.2.queue'.length, rfl, rfl⟩, hs.pk (.c d0 (.c d0 .n))⟩)
def slices_Chunk_bytes.m (x0 : List Int) (x1 : Int) : Option (List Int) := if 1 ≤ x1 ∧ x1 ≤ 1048576 ∧ (x0.length : Int) ≤ 1099511627776 then some (chX x1 x0.length x0.length 0) else none
theorem slices_Chunk_bytes.ok {x0 : List Int} {x1 : Int} {xs : List Int} (H : slices_Chunk_bytes.m x0 x1 = some xs) : 1 ≤ x1 ∧ x1 ≤ 1048576 ∧ (x0.length : Int) ≤ 1099511627776 ∧ chX x1 x0.length x0.length 0 = xs := by
 unfold slices_Chunk_bytes.m at H
 split at H
 · rename_i c; exact ⟨c.1, c.2.1, c.2.2, Option.some.inj H⟩
 · cases H
theorem slices_Chunk_bytes.mem {x0 : List Int} {x1 : Int} {xs pre rest : List Int} {x : Int} (H : slices_Chunk_bytes.m x0 x1 = some xs) (h : xs = pre ++ x :: rest) : 0 ≤ x ∧ x < chE x1 x0 x ∧ chE x1 x0 x ≤ (x0.length : Int) :=
 have q := slices_Chunk_bytes.ok H
 chE_mem q.1 q.2.2.2 h
theorem slices_Chunk_bytes.calls {B I : Gh} {h : Heap} {x0 : List Int} {x1 : Int} {a21 : Option Addr} {p22 : Nat} {n23 : Nat} {r : List Int} (H : slices_Chunk_bytes.m x0 x1 = some r) :
    Fc Tryz.prog 185 #[.slice a21 n23 p22, .int .i64 x1] [] B I h
      (fun v L => ∃ (b1 b2 : Nat), v = .func (.func 200) #[] #[.pointer (some ⟨b1, 0, none⟩), .pointer (some ⟨b2, 0, none⟩)] ∧
        L = [rB b1 [.slice a21 n23 p22] 23, rB b2 [.int .i64 x1] 3] ∧ slices_Chunk_bytes.m x0 x1 = some r) := by
 refine fc_of fun E hs => ?_
 have q := slices_Chunk_bytes.ok H
 refine fn_of (args := [.slice a21 n23 p22, .int .i64 x1]) (rs := [.tmp 4]) (N := 9) Tryz.func185 rfl rfl rfl rfl ?_
 refine st 2 [] (k_op (nB hs [.slice a21 n23 p22] ?_))
 intro b1 h hs
 refine k_op (nB hs [.int .i64 x1] ?_)
 intro b2 h hs
 refine st 5 [] (k_op (lB (hs.bl d0) 0 rfl ?_))
 refine k_val (.bool false) (pr_bool (b := decide (x1 < 1)) (by kernel_rfl) (decide_eq_false (by omega))) ?_
 refine st 8 [false] ?_
 refine k_retQ ?_
 exact ⟨_, by kernel_rfl, I, _, ⟨b1, b2, rfl, rfl, H⟩, hs.pk (.c d1 (.c d0 .n))⟩
structure ChkH (x0 : List Int) (x1 : Int) (a : Option Addr) (p b1 b2 : Nat) (h : Heap) : Prop where
  c1 : cellAt h (some ⟨b1, 0, none⟩) 0 = some (.slice a x0.length p)
  c2 : cellAt h (some ⟨b2, 0, none⟩) 0 = some (.int .i64 x1)
  rd : ∃ I, Rd (tInt .u8) I h a p x0
theorem slices_Chunk_bytes.iter {x0 : List Int} {x1 : Int} {a : Option Addr} {p b1 b2 : Nat} {xs : List Int} (H : slices_Chunk_bytes.m x0 x1 = some xs) :
    Iter Tryz.prog 200 #[.pointer (some ⟨b1, 0, none⟩), .pointer (some ⟨b2, 0, none⟩)] (fun x => #[Value.slice (slA a (chE x1 x0 x).toNat x.toNat 1) (sub x0 x (chE x1 x0 x)).length (sub x0 x (chE x1 x0 x)).length]) xs (ChkH x0 x1 a p b1 b2) := by
  obtain ⟨hn, hn2, hL, hxs⟩ := slices_Chunk_bytes.ok H
  intro l J Jx hJH hJG hXG hy h h0
  refine fn_of (args := [.func (.yield l) #[] #[], .pointer (some ⟨b1, 0, none⟩), .pointer (some ⟨b2, 0, none⟩)]) (rs := []) (N := 31) Tryz.func200 rfl rfl rfl rfl ?_
  refine st 5 [] ?_
  refine k_loop 0 (fun k ρ h => ∃ (pre rest : List Int) (i : Int), xs = pre ++ rest ∧ chX x1 x0.length k i = rest ∧ (x0.length : Int) - i ≤ k ∧ 0 ≤ i ∧ i ≤ x0.length + x1 ∧
    Fits [(0, .func (.yield l) #[] #[]), (1, .pointer (some ⟨b1, 0, none⟩)), (2, .pointer (some ⟨b2, 0, none⟩)), (4, .int .i64 i)] ρ ∧ J pre h)
    (fun _ h => J xs h) x0.length ⟨[], xs, 0, rfl, hxs, by omega, by omega, by omega, ⟨by kernel_rfl, by kernel_rfl, by kernel_rfl, by kernel_rfl, trivial⟩, h0⟩ ?_ rfl ?_
  · rintro k ρ h2 ⟨pre, rest, i, hx, hr, hk, hi0, hi1, hf, hJ⟩
    refine k_fits _ hf ?_ rfl
    have H0 := hJH _ _ hJ
    by_cases hlt : i < x0.length
    · cases k with
      | zero => exact absurd hk (by omega)
      | succ k =>
        unfold chX at hr
        rw [if_pos hlt] at hr
        subst hr
        have q := slices_Chunk_bytes.mem H hx
        have e1 : w64 (i + mn x1 ((sub x0 i (x0.length : Int)).length : Int)) = chE x1 x0 i := by
          have e2 : ((sub x0 i (x0.length : Int)).length : Int) = (x0.length : Int) - i := by rw [sub_length (Int.le_refl _)]; omega
          rw [e2, ← show chE x1 x0 i = i + mn x1 ((x0.length : Int) - i) from rfl, w64_sm (by omega) (by omega)]
        obtain ⟨I0, rd⟩ := H0.rd
        refine st 4 [] (k_op (lC (a := some ⟨b1, 0, none⟩) (n := 0) H0.c1 ?_))
        refine st 1 [] (k_val (.bool true) (pr_bool (b := decide (i < (x0.length : Int))) (by kernel_rfl) (decide_eq_true hlt)) ?_)
        refine st 6 [true] ?_
        refine k_regP 7 ?_
        refine aL (a := some ⟨b2, 0, none⟩) (n := 0) 0 rfl Keep.refl H0.c2 (fun _ _ x => x) ?_
        refine aL (a := some ⟨b1, 0, none⟩) (n := 0) 1 rfl Keep.refl H0.c1 (fun _ _ x => x) ?_
        refine aRun [2] 4 Keep.refl ?_
        refine aP 3 (.slice (slA a p i.toNat 1) (sub x0 i (x0.length : Int)).length (p - i.toNat)) rfl (pr_slice_l (e := 5) (k1 := .i64) rd.toSl ⟨rfl, rfl⟩ (by kernel_rfl) (by kernel_rfl) (by kernel_rfl) (by kernel_rfl) hi0 (by omega) (Int.le_refl _)) Keep.refl ?_
        refine aRun [4, 5, 6] 0 Keep.refl ?_
        refine aEnd ?_
        refine st 3 [] (k_op (lC (a := some ⟨b1, 0, none⟩) (n := 0) H0.c1 ?_))
        refine st 3 [] (k_val (.int .i64 (chE x1 x0 i)) (pr_int (by kernel_rfl) e1) ?_)
        refine st 2 [] (k_val (.int .i64 (chE x1 x0 i)) (pr_int (by kernel_rfl) e1) ?_)
        refine k_val (.slice (slA a (chE x1 x0 i).toNat i.toNat 1) (sub x0 i (chE x1 x0 i)).length (sub x0 i (chE x1 x0 i)).length) (pr_slice3 (e := 5) (k1 := .i64) (k2 := .i64) (k3 := .i64) rd.toSl (by kernel_rfl) (by kernel_rfl) (by kernel_rfl) (by kernel_rfl) (by kernel_rfl) (by kernel_rfl) q.1 q.2.1 q.2.2) ?_
        refine k_op (owp_yield (hy pre i _ h2 hx hJ) ?_)
        rintro b h3 (⟨rfl, hJ3⟩ | ⟨rfl, hX⟩)
        · have H3 := hJH _ _ hJ3
          refine st 7 [false] (k_op (lC (a := some ⟨b2, 0, none⟩) (n := 0) H3.c2 ?_))
          refine st 3 [] ?_
          have e3 : w64 (i + x1) = i + x1 := w64_sm (by omega) (by omega)
          exact k_endL ⟨k, by omega, pre ++ [i], chX x1 x0.length k (i + x1), w64 (i + x1), by rw [hx]; simp, by rw [e3], by rw [e3]; omega, by rw [e3]; omega, by rw [e3]; omega, ⟨by kernel_rfl, by kernel_rfl, by kernel_rfl, by kernel_rfl, trivial⟩, hJ3⟩
        · refine st 3 [true] ?_
          refine k_retQ (krL ?_)
          exact ⟨.tuple #[], by kernel_rfl, .inr ⟨_, hX⟩⟩
    · have hr0 : rest = [] := by
        cases k with
        | zero => exact hr.symm
        | succ k => unfold chX at hr; rw [if_neg hlt] at hr; exact hr.symm
      subst hr0
      rw [List.append_nil] at hx
      subst hx
      refine st 4 [] (k_op (lC (a := some ⟨b1, 0, none⟩) (n := 0) H0.c1 ?_))
      refine st 1 [] (k_val (.bool false) (pr_bool (b := decide (i < (x0.length : Int))) (by kernel_rfl) (decide_eq_false hlt)) ?_)
      refine st 2 [false] ?_
      refine k_out rfl ?_
      exact xE hJ
  · rintro ρ h2 hJ
    refine k_fin ?_
    exact ⟨.tuple #[], by kernel_rfl, .inl hJ⟩
def piece_Cut.l1.m (K : Nat) (x1 : (List Int)) : List Int → (List api_Pack) → Option ((List api_Pack))
  | [], x0 => some (x0)
  | x2 :: xs, x0 => ((slices_Clone_bytes.m (sub x1 x2 (chE 64 x1 x2))).bind fun t0 => ((app x0 [(⟨0, (w64 ((x0.length : Int) + 1)), false, t0⟩ : api_Pack)]).bind fun l0 => (piece_Cut.l1.m K x1 xs l0)))
def piece_Cut.m (K : Nat) (x1 : (List Int)) : Option ((List api_Pack) × GoErr) :=
  (if (x1.length : Int) = 0 then none else (if (x1.length : Int) > 8192 then none else ((slices_Chunk_bytes.m x1 64).bind fun t0 => ((piece_Cut.l1.m K x1 t0 []).bind fun x0 => (if 0 ≤ (w64 ((x0.length : Int) - 1)) then (if (w64 ((x0.length : Int) - 1)) < (x0.length : Int) then (some ((x0.set (w64 ((x0.length : Int) - 1)).toNat (⟨(at_ x0 (w64 ((x0.length : Int) - 1))).Ack, (at_ x0 (w64 ((x0.length : Int) - 1))).Num, true, (at_ x0 (w64 ((x0.length : Int) - 1))).Data⟩ : api_Pack)), GoErr.nil)) else none) else none)))))
theorem piece_Cut.calls {B I : Gh} {h : Heap} {K : Nat} {x0 : (List Int)} {a21 : Option Addr} {p22 : Nat} {n23 : Nat} {r : ((List api_Pack) × GoErr)} (H : piece_Cut.m K x0 = some r)  :
    Fc Tryz.prog 162 #[.slice a21 n23 p22] [rR (tInt .u8) .b a21 p22 n23 x0] B I h (fun v L => ∃ a4 p4 n2 v0, v = .tuple #[.slice a4 n2 p4, v0] ∧ L = [rO t_api_Pack .i a4 p4 n2 r.1, rE .i v0 r.2]) := by
 refine fc_of fun E hs => ?_;unfold piece_Cut.m at H;cases hs.nR d0;refine fn_rangeW1 (args := [.slice a21 x0.length p22]) (rs := [.tmp 2, .tmp 3]) (N := 35) [_, _, _] Tryz.func162 rfl rfl rfl rfl ?_;refine st 9 [] (k_ite H (fun c2 H => ?_) (fun c2 H => ?_))
 ·cases H
 refine st 7 [false] (k_ite H (fun c3 H => ?_) (fun c3 H => ?_))
 ·cases H
 refine st 6 [false] (k_op (nA hs [.slice none 0 0] (.slice none 0 0) ?_));intro b0 h hs;obtain ⟨hk, bk⟩ := hs.call tk0 .n;refine st 3 [] (k_call H (fun _ m => slices_Chunk_bytes.calls (a21 := a21) (p22 := p22) (n23 := x0.length) m hk) ?_);rintro t1 _ h H ⟨I, _, ⟨b3, b4, rfl, rfl, m0⟩, hk⟩;replace hs := bk hk ct2 rfl;refine st 1 [] ?_;obtain ⟨s0, m1, HR0⟩ := bind_some H;clear H;obtain ⟨h1, eh0⟩ : ∃ h', h' = h := ⟨_, rfl⟩;subst eh0;refine k_loopW (range_st (p := 18) (enc := fun (x : Int) => .slice (slA a21 (Int.toNat (chE 64 x0 x)) (Int.toNat x) 1) ((sub x0 x (chE 64 x0 x)).length) (sub x0 x (chE 64 x0 x)).length) (hs.pk (.f imON (.c d2 (.c d2 (.c d0 (.c d0 .n)))))) (fun (pre : List Int) L => ∃ (rest : List Int), ∃ (x2 : List api_Pack), ∃ a0 p0 n0, t1 = pre ++ rest ∧ (piece_Cut.l1.m K x0 rest x2) = some s0 ∧ L = [rO t_api_Pack .i a0 p0 n0 x2, rB b0 [.slice a0 n0 p0] 207, rR (tInt .u8) .b a21 p22 x0.length x0, rB b3 [.slice a21 x0.length p22] 23, rB b4 [iv 64] 3]) (mkY (fun _ => False) (fun _ _ => False)) ⟨t1, [], none, 0, 0, rfl, m1, rfl⟩ (by kernel_rfl) (enters_of Tryz.func200 rfl (by kernel_rfl)) (slices_Chunk_bytes.iter (a := a21) (p := p22) (b1 := b3) (b2 := b4) m0) ?_ (fun x => [(5, .slice (slA a21 (Int.toNat (chE 64 x0 x)) (Int.toNat x) 1) ((sub x0 x (chE 64 x0 x)).length) (sub x0 x (chE 64 x0 x)).length), (18, .slice (slA a21 (Int.toNat (chE 64 x0 x)) (Int.toNat x) 1) ((sub x0 x (chE 64 x0 x)).length) (sub x0 x (chE 64 x0 x)).length)]) ?_ rfl ?_) ?_ ?_ ?_
 ·rintro o pre L I h' ⟨rest, x2, a0, p0, n0, _, _, rfl⟩ hs;exact ⟨(hs.bl d4).cell (off := 0) rfl, (hs.bl d5).cell (off := 0) rfl, ⟨_, hs.rd d3⟩⟩
 ·intro x Q h' q;exact st 3 [] (k_fin2 q)
 ·rintro o pre x3 rest' L I h hx' ⟨rest, x2, a0, p0, n0, hx, H, rfl⟩ hs;obtain rfl : rest = x3 :: rest' := List.append_cancel_left (hx.symm.trans hx');clear hx';obtain ⟨rest, erest⟩ : ∃ r, r = rest' := ⟨_, rfl⟩;subst erest;rw [piece_Cut.l1.m] at H;cases hs.nO d1;replace hs := hs.part3 d3 (slices_Chunk_bytes.mem m0 hx);refine st 1 [] ?_;obtain ⟨hs0, bk0⟩ := hs.call tk0 (.c (qL d3) (.c (qB d0) .n));have hs := hs0;refine k_regD hs0 8 ?_;refine aL 0 rfl hs.keep (ll hs0 d0 (n := 0) rfl) (nmL hs0 d0) ?_;refine aL 1 rfl hs.keep (ll hs0 d0 (n := 0) rfl) (nmL hs0 d0) ?_;refine aRun [2, 3, 4] 5 hs.keep ?_;obtain ⟨hk, bk⟩ := hs.call tk0 (.c (qB d1) .n);refine aO1 5 rfl (o_call H (fun _ m => slices_Clone_bytes.calls m hk) ?_);rintro t0 _ h H ⟨I, _, ⟨a2, p2, n3, rfl, rfl⟩, hk⟩;replace hs := bk hk ct1 rfl;cases hs.nO d0;refine ⟨hs.keep, ?_⟩;obtain ⟨I, hs⟩ := hs.fO;refine aRun [6] 3 hs.keep ?_;refine aO1 7 rfl (nS (e := 250) hs .i t_api_Pack ([(⟨0, (w64 ((x2.length : Int) + 1)), false, t0⟩ : api_Pack)] : List api_Pack) [iv 0, iv (w64 ((x2.length : Int) + 1)), .bool false, .slice a2 t0.length p2] 4 (.agg #[iv 0, iv 0, .bool false, .slice none 0 0]) (Reps.cons (T := t_api_Pack) (c := [iv 0, iv (w64 ((x2.length : Int) + 1)), .bool false, .slice a2 t0.length p2]) (x := (⟨0, (w64 ((x2.length : Int) + 1)), false, t0⟩ : api_Pack)) ⟨_, _, _, rfl, (hs.g d0)⟩ (.nil : Reps t_api_Pack (Cl.G .i E.B I) h [] [])) ?_);intro b5 h hs;refine ⟨hs.keep, ?_⟩;replace hs := hs.pk (.c d0 (.c d0 .n));replace hs := bk0 hs ct2 rfl;replace hs := (hs.f d4);obtain ⟨l0, m2, H⟩ := bind_some H;refine aOL 8 rfl (aO (e := 250) (bytes := 48) hs (hs.sO d1) m2 ?_);intro a3 p3 h hs;refine aOL 9 rfl (sB (v := .slice a3 l0.length p3) (hs.f d5) cw0 ?_);intro h hs;refine aEnd ?_;refine st 1 [] (k_fin ?_);exact ⟨_, I, ⟨rest, l0, a3, p3, l0.length, by simp [hx], H, rfl⟩, hs.pk (.c d5 (.c d1 (.c d0 (.c d3 (.c d3 (.c d3 .n))))))⟩
 ·intro h0 hk;have key : ∃ (x1 : List api_Pack), ∃ a1 p1 n1, ∃ (o : Obj), ∃ I, x1 = s0 ∧ St E (rQ h1.size (h1.size + 1) o :: [rO t_api_Pack .i a1 p1 n1 x1, rB b0 [.slice a1 n1 p1] 207]) I h0 := by
    rcases hk with ⟨o, L, I, ⟨rest, x2, a0, p0, n0, hx, H, rfl⟩, hs⟩ | ⟨o, L, I, hy, hs⟩
    · obtain rfl : rest = [] := List.append_cancel_left (hx.symm.trans (List.append_nil _).symm)
      rw [piece_Cut.l1.m] at H;obtain rfl := si H;cases hs.nO d1;exact ⟨x2, a0, p0, x2.length, o, I, rfl, hs.pk (.c d0 (.c d0 (.c d0 .n)))⟩
    · exact hy.elim
  obtain ⟨x1, a1, p1, n1, o, I, rfl, hs⟩ := key;have H := HR0;try dsimp only at H
  cases hs.nO d1;refine st 2 [] (k_op (lB (hs.bl d2) 0 rfl ?_));refine k_op (lB (hs.bl d2) 0 rfl ?_);obtain ⟨c0, H⟩ := guard_pos H;obtain ⟨c1, H⟩ := guard_pos H;refine st 2 [] (k_val (elemPtr a1 ((w64 ((x1.length : Int) - 1)).toNat * 4)) (pI (e := 250) (ik := .i64) (hs.sO d1) c0 c1) ?_);refine k_val (elemPtr a1 ((w64 ((x1.length : Int) - 1)).toNat * 4 + 2)) (pF (off := 2) (hs.sO d1) c0 c1) ?_;obtain ⟨y0, g0, q1⟩ := (hs.sO d1).toSl.seg c0 c1;obtain ⟨a5, p5, n4, rfl, q0⟩ := t_api_Pack.open_ q1;obtain rfl := q0.2;replace hs := hs.pR q0;replace hs := (hs.f d2);refine k_op (sE hs 2 [.bool true] (⟨(at_ x1 (w64 ((x1.length : Int) - 1))).Ack, (at_ x1 (w64 ((x1.length : Int) - 1))).Num, true, (at_ x1 (w64 ((x1.length : Int) - 1))).Data⟩ : api_Pack) c0 c1 g0 (ones_of rfl) ⟨_, _, _, rfl, (hs.g d1)⟩ ?_);intro h hs;refine st 3 [] (k_op (lB (hs.bl d3) 0 rfl ?_));refine st 3 [] (k_retQ (krM ?_));obtain rfl := si H;refine ⟨(hs.rqD d2).1, ?_⟩;replace hs := (hs.f d2).rqe;exact ⟨_, by kernel_rfl, I, _, ⟨a1, p1, x1.length, (.nilIface), rfl, rfl⟩, hs.pk (.c d0 (.f imEN .n))⟩
 ·rintro h0 ⟨o, L, I, hy, hs⟩;exact hy.elim
 intro i L hy;exact hy.elim
def line_Line_now.m (x0 : line_Line) : Option line_Line :=
  (some (⟨x0.queue', x0.given', x0.await', x0.kept', x0.coming', 1, 0, x0.owes'⟩ : line_Line))
theorem line_Line_now.calls {B I : Gh} {h : Heap} {x0 : line_Line} {b0 : Nat} {v0 : Value} {v1 : Value} {v2 : Value} {r : line_Line} (H : line_Line_now.m x0 = some r)  :
    Fc Tryz.prog 164 #[pv b0] [rB b0 [v0, iv x0.given', iv x0.await', v1, v2, iv x0.wait', iv x0.left', .bool x0.owes'] 210] B I h (fun v L => v = .tuple #[] ∧ L = [rB b0 [v0, iv r.given', iv r.await', v1, v2, iv r.wait', iv r.left', .bool r.owes'] 210]) := by
 refine fc_of fun E hs => ?_;unfold line_Line_now.m at H;refine fn_of (rs := []) (N := 8) Tryz.func164 rfl rfl rfl rfl ?_;refine st 5 [] (k_op (sB (v := iv 1) hs cw5 ?_));intro h hs;refine st 2 [] (k_op (sB (v := iv 0) hs cw6 ?_));intro h hs;refine st 1 [] (k_fin ?_);obtain rfl := si H;exact ⟨_, by kernel_rfl, I, _, ⟨rfl, rfl⟩, hs.pk (.c d0 .n)⟩
def line_Line_Send.l1.m (K : Nat) (t0 : ((List api_Pack) × GoErr)) : Nat → Int → (List api_Pack) → Int → Option ((List api_Pack) × Int)
  | 0, _, _, _ => none
  | k + 1, x0, x2, x1 => (letJ (α := Bool → Option ((List api_Pack) × Int)) (fun x3 => (bif x3 then (if 0 ≤ x0 then (if x0 < (t0.1.length : Int) then ((app x2 [(⟨(at_ t0.1 x0).Ack, (w64 (x1 + 1)), (at_ t0.1 x0).Last, (at_ t0.1 x0).Data⟩ : api_Pack)]).bind fun l0 => (line_Line_Send.l1.m K t0 k (w64 (x0 + 1)) l0 (w64 (x1 + 1)))) else none) else none) else (some ((x2, x1))))) fun j0 => (if x0 < (t0.1.length : Int) then (j0 true) else (j0 false)))
def line_Line_Send.m (K : Nat) (x0 : line_Line) (x1 : (List Int)) : Option (GoErr × line_Line) :=
  ((piece_Cut.m K x1).bind fun t2 => (if t2.2 = GoErr.nil then ((line_Line_room.m x0 (t2.1.length : Int)).bind fun t0 => bif t0.1 then (if (t0.2.queue'.length : Int) = 0 then ((line_Line_now.m (⟨t0.2.queue', t0.2.given', t0.2.await', x0.kept', x0.coming', t0.2.wait', t0.2.left', t0.2.owes'⟩ : line_Line)).bind fun t1 => ((line_Line_Send.l1.m K t2 K 0 t0.2.queue' t1.given').bind fun (x2, x3) => (some (GoErr.nil, (⟨x2, x3, t1.await', x0.kept', x0.coming', t1.wait', t1.left', t1.owes'⟩ : line_Line))))) else none) else none) else none))
theorem line_Line_Send.calls {B I : Gh} {h : Heap} {K : Nat} {x2 : line_Line} {x6 : (List Int)} {b0 : Nat} {a4 : Option Addr} {p3 : Nat} {n2 : Nat} {v0 : Value} {v1 : Value} {a5 : Option Addr} {p4 : Nat} {n3 : Nat} {r : (GoErr × line_Line)} (H : line_Line_Send.m K x2 x6 = some r)  :
    Fc Tryz.prog 143 #[pv b0, .slice a5 n3 p4] [rB b0 [.slice a4 n2 p3, iv x2.given', iv x2.await', v0, v1, iv x2.wait', iv x2.left', .bool x2.owes'] 210, rO t_api_Pack .i a4 p3 n2 x2.queue', rR (tInt .u8) .b a5 p4 n3 x6] B I h (fun v L => ∃ v2 a7 p7 n4, v = v2 ∧ L = [rE .i v2 r.1, rB b0 [.slice a7 n4 p7, iv r.2.given', iv r.2.await', v0, v1, iv r.2.wait', iv r.2.left', .bool r.2.owes'] 210, rO t_api_Pack .i a7 p7 n4 r.2.queue']) := by
 refine fc_of fun E hs => ?_;unfold line_Line_Send.m at H;cases hs.nO d1;cases hs.nR d2;refine fn_of (rs := [.tmp 4]) (N := 60) Tryz.func143 rfl rfl rfl rfl ?_;obtain ⟨hk, bk⟩ := hs.call tk0 (.c (qB d2) .n);refine st 7 [] (k_call H (fun _ m => piece_Cut.calls m hk) ?_);rintro t0 _ h H ⟨I, _, ⟨a2, p5, n5, v3, rfl, rfl⟩, hk⟩;replace hs := bk hk ct2 rfl;cases hs.nO d0;rcases (hs.er d1).cases with ⟨c0, rfl⟩ | ⟨c0, t3, u0, rfl⟩;rotate_left
 ·rw [if_neg c0] at H;cases H
 rw [if_pos c0] at H;obtain ⟨hk, bk⟩ := ((hs.f d3).f d3).call tk2 .n;refine st 20 [false] (k_call H (fun _ m => line_Line_room.calls m hk) ?_);rintro t2 _ h H ⟨I, _, ⟨a8, p8, n6, rfl, rfl⟩, hk⟩;replace hs := bk hk ct2 rfl;cases hs.nO d1;refine k_spl H (fun c3 H => ?_) (fun c3 H => ?_);rotate_left
 ·cases H
 refine st 10 [false] (k_op (lB (hs.bl d0) 0 rfl ?_));refine st 1 [] (k_ite H (fun c4 H => ?_) (fun c4 H => ?_));rotate_left
 ·cases H
 obtain ⟨hk, bk⟩ := hs.call tk1 .n;refine st 4 [true] (k_call H (fun _ m => line_Line_now.calls m hk) ?_);rintro t1 _ h H ⟨I, _, ⟨rfl, rfl⟩, hk⟩;replace hs := bk hk ct1 rfl;refine st 9 [] ?_;obtain ⟨s0, m0, HR0⟩ := bind_some H;refine k_loopT hs tl2 0 (fun T k' ρ h => ∃ (x0 : Int) (x3 : List api_Pack) (x1 : Int), ∃ a0 p0 n0 I, line_Line_Send.l1.m K t0 k' x0 x3 x1 = some s0 ∧ Fits [(0, pv b0), (31, .slice a2 t0.1.length p5), (32, iv (t0.1.length : Int)), (33, iv x0)] ρ ∧ St E (rO t_api_Pack .i a0 p0 n0 x3 :: rB b0 [.slice a0 n0 p0, iv x1, iv t1.await', v0, v1, iv t1.wait', iv t1.left', .bool t1.owes'] 210 :: T) I h) (fun T ρ h => ∃ (x4 : List api_Pack) (x5 : Int), ∃ a1 p1 n1 I, (x4, x5) = s0 ∧ Fits [] ρ ∧ St E (rO t_api_Pack .i a1 p1 n1 x4 :: rB b0 [.slice a1 n1 p1, iv x5, iv t1.await', v0, v1, iv t1.wait', iv t1.left', .bool t1.owes'] 210 :: T) I h) K ⟨0, t2.2.queue', t1.given', a8, p8, t2.2.queue'.length, I, m0, ft, hs.pk (.c d1 (.c d0 pk0))⟩ ?_ rfl ?_;rotate_left
 ·rintro ρ h ⟨x4, x5, a1, p1, n1, I, rfl, hf, hs⟩;have H := HR0;try dsimp only at H
  refine k_fits _ hf ?_ rfl;cases hs.nO d0;obtain rfl := si H;exact st 4 [] (k_retQ ⟨_, by kernel_rfl, I, _, ⟨(.nilIface), a1, p1, x4.length, rfl, rfl⟩, hs.pk (.f imEN (.c d1 (.c d0 .n)))⟩)
 clear HR0 m0 H;rintro k' ρ h ⟨x0, x3, x1, a0, p0, n0, I, H, hf, hs⟩;cases k' with
 | zero => cases H
 | succ k =>
  rw [line_Line_Send.l1.m] at H;refine k_fits _ hf ?_ rfl;cases hs.nO d0;refine st 1 [] (k_jF H hs (fun x7 => [(0, pv b0), (31, .slice a2 t0.1.length p5), (32, iv (t0.1.length : Int)), (33, iv x0), (34, .bool x7)]) ?_ ?_ ?_)
  ·intro j0 H;refine st 1 [] (k_ite H (fun c5 H => ?_) (fun c5 H => ?_))
   ·exact st 1 [] (k_end ⟨true, I, H, ft, hs⟩)
   exact st 1 [] (k_end ⟨false, I, H, ft, hs⟩)
  ·intro ρ h I H hs;refine st 2 [false] (k_out rfl ?_);obtain rfl := si H;exact xE ⟨x3, x1, a0, p0, x3.length, I, rfl, trivial, hs.pk (.c d0 (.c d0 pk0))⟩
  intro ρ h I H hs;obtain ⟨c1, H⟩ := guard_pos H;obtain ⟨c2, H⟩ := guard_pos H;refine st 7 [true] (k_val (elemPtr a2 (x0.toNat * 4)) (pI (e := 250) (ik := .i64) (hs.sO d2) c1 c2) ?_);obtain ⟨y0, g0, q1⟩ := (hs.sO d2).toSl.seg c1 c2;obtain ⟨a3, p2, n7, rfl, q0⟩ := t_api_Pack.open_ q1;obtain rfl := q0.2;replace hs := hs.pR q0;refine k_op (lG g0 ?_);refine k_op (nA hs [iv 0, iv 0, .bool false, .slice none 0 0] (.agg #[iv 0, iv 0, .bool false, .slice none 0 0]) ?_);intro b1 h hs;refine k_op (sN0 hs (cl_api_Pack (at_ t0.1 x0) a3 (((at_ t0.1 x0).Data).length) p2) (ones_of rfl) ?_);intro h hs;refine st 6 [] (k_op (lB (hs.bl d3) 1 rfl ?_));refine st 3 [] (k_op (sB (v := iv (w64 (x1 + 1))) (hs.f d3) cw1 ?_));intro h hs;refine st 6 [] (k_op (lB (hs.bl d0) 1 rfl ?_));refine st 1 [] (k_op (sB (v := iv (w64 (x1 + 1))) (hs.f d1) cw1 ?_));intro h hs;refine st 1 [] ?_;obtain ⟨hs0, bk0⟩ := (hs.f d3).call tk1 (.c (qL d1) (.c (qL d0) (.c (qK d2) .n)));have hs := hs0;refine k_regD hs0 8 ?_;refine aRun [0, 1, 2, 3] 7 hs.keep ?_;refine aL 4 rfl hs.keep (ll hs0 d1 (n := 0) rfl) (nmL hs0 d1) ?_;refine aG 5 rfl hs.keep (lls hs0 d2 0 4 rfl) (nmL hs0 d2) ?_;refine aO1 6 rfl (nS (e := 250) hs .i t_api_Pack ([(⟨(at_ t0.1 x0).Ack, (w64 (x1 + 1)), (at_ t0.1 x0).Last, (at_ t0.1 x0).Data⟩ : api_Pack)] : List api_Pack) [iv ((at_ t0.1 x0).Ack), iv (w64 (x1 + 1)), .bool ((at_ t0.1 x0).Last), .slice a3 (((at_ t0.1 x0).Data).length) p2] 4 (.agg #[iv 0, iv 0, .bool false, .slice none 0 0]) (Reps.cons (T := t_api_Pack) (c := [iv ((at_ t0.1 x0).Ack), iv (w64 (x1 + 1)), .bool ((at_ t0.1 x0).Last), .slice a3 (((at_ t0.1 x0).Data).length) p2]) (x := (⟨(at_ t0.1 x0).Ack, (w64 (x1 + 1)), (at_ t0.1 x0).Last, (at_ t0.1 x0).Data⟩ : api_Pack)) ⟨_, _, _, rfl, (hs.g d3)⟩ (.nil : Reps t_api_Pack (Cl.G .i E.B I) h [] [])) ?_);intro b2 h hs;refine ⟨hs.keep, ?_⟩;replace hs := (hs.f d1);obtain ⟨l0, m1, H⟩ := bind_some H;refine aO1 7 rfl (aO (e := 250) (bytes := 48) hs (hs.sO d1) m1 ?_);intro a6 p6 h hs;refine ⟨hs.keep, ?_⟩;replace hs := hs.pk (.c d0 (.c d0 .n));replace hs := bk0 hs ct2 rfl;refine aOL 8 rfl (owp_pure (pv b0) (by kernel_rfl) ?_);refine aOL 9 rfl (owp_pure (pv b0) (by kernel_rfl) ?_);refine aOL 10 rfl (sB (v := .slice a6 l0.length p6) (hs.f d3) cw0 ?_);intro h hs;refine aEnd ?_;exact st 5 [] (k_endL ⟨k, Nat.lt_succ_self _, (w64 (x0 + 1)), l0, (w64 (x1 + 1)), a6, p6, l0.length, I, H, ft, hs.pk (.c d1 (.c d0 pk3))⟩)
def side_Client_send.m (K : Nat) (x0 : side_Client) (x1 : Int) (x2 : (List Int)) : Option (Bool × side_Client) :=
  ((app [x1] x2).bind fun l0 => ((line_Line_Room.m x0.side'.line' (l0.length : Int)).bind fun t0 => bif t0.1 then ((line_Line_Send.m K (⟨t0.2.queue', t0.2.given', t0.2.await', x0.side'.line'.kept', x0.side'.line'.coming', t0.2.wait', t0.2.left', t0.2.owes'⟩ : line_Line) l0).bind fun t1 => (if t1.1 = GoErr.nil then ((app x0.sent' [l0]).bind fun l1 => (some (true, (⟨(⟨x0.side'.key', x0.side'.gate', (⟨t1.2.queue', t1.2.given', t1.2.await', x0.side'.line'.kept', x0.side'.line'.coming', t1.2.wait', t1.2.left', t1.2.owes'⟩ : line_Line), x0.side'.dir', x0.side'.seq'⟩ : side_side), x0.s', x0.todo', l1, x0.events'⟩ : side_Client)))) else none)) else none))
theorem side_Client_send.calls {B I : Gh} {h : Heap} {K : Nat} {x0 : side_Client} {x1 : Int} {x2 : (List Int)} {b2 : Nat} {v0 : Value} {v1 : Value} {b0 : Nat} {a1 : Option Addr} {p1 : Nat} {n0 : Nat} {b1 : Nat} {a0 : Option Addr} {p0 : Nat} {n1 : Nat} {v2 : Value} {v3 : Value} {a2 : Option Addr} {p2 : Nat} {n2 : Nat} {v4 : Value} {a3 : Option Addr} {p3 : Nat} {n3 : Nat} {r : (Bool × side_Client)} (H : side_Client_send.m K x0 x1 x2 = some r)  :
    Fc Tryz.prog 159 #[pv b2, .int .u8 x1, .slice a3 n3 p3] [rB b2 [v0, v1, iv x0.side'.gate'.Dir, iv x0.side'.gate'.Seen.Top, .int .u64 x0.side'.gate'.Seen.Bits, .string x0.side'.gate'.Peer.Addr, iv x0.side'.gate'.Peer.Seq, pv b0, iv x0.side'.dir', iv x0.side'.seq', iv x0.s'.Rows, iv x0.s'.Cols, v2, iv x0.s'.Cursor, .bool x0.s'.Locked, .bool x0.s'.Insert, v3, .slice a2 n2 p2, v4] 122, rB b0 [.slice a1 n0 p1, iv x0.side'.line'.given', iv x0.side'.line'.await', .map (some b1), .slice a0 n1 p0, iv x0.side'.line'.wait', iv x0.side'.line'.left', .bool x0.side'.line'.owes'] 210, rO t_api_Pack .i a1 p1 n0 x0.side'.line'.queue', rM t_api_Pack b1 x0.side'.line'.kept', rO (tInt .u8) .i a0 p0 n1 x0.side'.line'.coming', rO (tSl (tInt .u8)) .i a2 p2 n2 x0.sent', rR (tInt .u8) .b a3 p3 n3 x2] B I h (fun v L => ∃ a6 p6 n4 a7 p7 n5 a8 p8 n6, v = .bool r.1 ∧ L = [rB b2 [v0, v1, iv r.2.side'.gate'.Dir, iv r.2.side'.gate'.Seen.Top, .int .u64 r.2.side'.gate'.Seen.Bits, .string r.2.side'.gate'.Peer.Addr, iv r.2.side'.gate'.Peer.Seq, pv b0, iv r.2.side'.dir', iv r.2.side'.seq', iv r.2.s'.Rows, iv r.2.s'.Cols, v2, iv r.2.s'.Cursor, .bool r.2.s'.Locked, .bool r.2.s'.Insert, v3, .slice a8 n6 p8, v4] 122, rB b0 [.slice a6 n4 p6, iv r.2.side'.line'.given', iv r.2.side'.line'.await', .map (some b1), .slice a7 n5 p7, iv r.2.side'.line'.wait', iv r.2.side'.line'.left', .bool r.2.side'.line'.owes'] 210, rO t_api_Pack .i a6 p6 n4 r.2.side'.line'.queue', rM t_api_Pack b1 r.2.side'.line'.kept', rO (tInt .u8) .i a7 p7 n5 r.2.side'.line'.coming', rO (tSl (tInt .u8)) .i a8 p8 n6 r.2.sent']) := by
 refine fc_of fun E hs => ?_;unfold side_Client_send.m at H;cases hs.nO d2;cases hs.nO d4;cases hs.nO d5;cases hs.nR d6;refine fn_of (rs := [.tmp 6]) (N := 41) Tryz.func159 rfl rfl rfl rfl ?_;refine st 7 [] (k_op (nS (e := 5) hs .i (tInt .u8) ([x1] : List Int) [.int .u8 x1] 1 (.int .u8 0) (Reps.int (I := (Cl.G .i E.B I)) (k := .u8) (l := [x1])) ?_));intro b3 h hs;obtain ⟨l0, m0, H⟩ := bind_some H;refine st 1 [] (k_op (aO (e := 5) (bytes := 1) hs ((hs.sR d7).flat flat_int) m0 ?_));intro a4 p4 h hs;refine st 9 [] (k_op (lB (hs.bl d1) 7 rfl ?_));obtain ⟨hk, bk⟩ := ((hs.f d3).f d3).call tk2 .n;refine st 2 [] (k_call H (fun _ m => line_Line_Room.calls m hk) ?_);rintro t1 _ h H ⟨I, _, ⟨aB, pA, n7, rfl, rfl⟩, hk⟩;replace hs := bk hk ct2 rfl;cases hs.nO d1;refine k_spl H (fun c1 H => ?_) (fun c1 H => ?_);rotate_left
 ·cases H
 refine st 6 [] (k_op (lB (hs.bl d3) 7 rfl ?_));obtain ⟨hk, bk⟩ := ((hs.f d1).f d1).call tk2 (.c (qO d0) .n);refine st 1 [] (k_call H (fun _ m => line_Line_Send.calls m hk) ?_);rintro t0 v5 h H ⟨I, _, ⟨_, a9, p9, n8, rfl, rfl⟩, hk⟩;replace hs := bk hk ct3 rfl;cases hs.nO d2;rcases (hs.er d0).cases with ⟨c0, rfl⟩ | ⟨c0, t2, u0, rfl⟩;rotate_left
 ·rw [if_neg c0] at H;cases H
 rw [if_pos c0] at H;refine st 11 [false] (k_op (lB (hs.bl d4) 17 rfl ?_));obtain ⟨I, hs⟩ := (hs.f d3).fO;refine st 1 [] (k_op (nS (e := 23) hs .i (tSl (tInt .u8)) ([l0] : List (List Int)) [.slice a4 l0.length p4] 1 (.slice none 0 0) (Reps.cons (T := (tSl (tInt .u8))) (c := [.slice a4 l0.length p4]) (x := l0) ⟨_, _, _, rfl, (hs.g d0)⟩ (.nil : Reps (tSl (tInt .u8)) (Cl.G .i E.B I) h [] [])) ?_));intro b4 h hs;replace hs := (hs.f d8);obtain ⟨l1, m1, H⟩ := bind_some H;refine k_op (aO (e := 23) (bytes := 24) hs (hs.sO d1) m1 ?_);intro a5 p5 h hs;refine st 2 [] (k_op (sB (v := .slice a5 l1.length p5) (hs.f d6) cw17 ?_));intro h hs;obtain rfl := si H;exact st 5 [] (k_retQ ⟨_, by kernel_rfl, I, _, ⟨a9, p9, t0.2.queue'.length, a0, p0, x0.side'.line'.coming'.length, a5, p5, l1.length, rfl, rfl⟩, hs.pk (.c d0 (.c d4 (.c d4 (.c d4 (.c d4 (.c d0 .n))))))⟩)
def slices_Clone_api_Cell.m (x0 : (List api_Cell)) : Option (List api_Cell) :=
  ((app [] x0).bind fun l0 => (some l0))
theorem slices_Clone_api_Cell.calls {B I : Gh} {h : Heap} {x0 : (List api_Cell)} {a0 : Option Addr} {p0 : Nat} {n0 : Nat} {r : (List api_Cell)} (H : slices_Clone_api_Cell.m x0 = some r)  :
    Fc Tryz.prog 49 #[.slice a0 n0 p0] [rR t_api_Cell .b a0 p0 n0 x0] B I h (fun v L => ∃ a1 p1 n1, v = .slice a1 n1 p1 ∧ L = [rO t_api_Cell .i a1 p1 n1 r]) := by
 refine fc_of fun E hs => ?_;unfold slices_Clone_api_Cell.m at H;cases hs.nR d0;refine fn_of (rs := [.tmp 2]) (N := 8) Tryz.func49 rfl rfl rfl rfl ?_;rcases a0 with _ | ad0
 ·have e0 := ((hs.sR d0).toSl.nil rfl).1;replace H : (some []) = some r := by simpa [app, Lim, e0] using H
  obtain rfl := si H;exact st 15 [true] (k_retQ ⟨_, by kernel_rfl, I, _, ⟨none, 0, 0, rfl, rfl⟩, hs.pk (.f imON .n)⟩)
 refine st 14 [false] (k_op (nS (e := 36) hs .i t_api_Cell ([] : List api_Cell) [] 6 (.agg #[.bool false, .bool false, .bool false, iv 0, .bool false, .int .u8 0]) (.nil : Reps t_api_Cell (Cl.G .i E.B I) h [] []) ?_));intro b0 h hs;obtain ⟨l0, m0, H⟩ := bind_some H;refine st 1 [] (k_op (aO (e := 36) (bytes := 40) hs ((hs.sR d1).flat (fun r => r)) m0 ?_));intro a2 p2 h hs;obtain rfl := si H;exact st 2 [] (k_retQ ⟨_, by kernel_rfl, I, _, ⟨a2, p2, l0.length, rfl, rfl⟩, hs.pk (.c d0 .n)⟩)
def grid_Copy.m (x0 : api_Screen) : Option api_Screen :=
  ((slices_Clone_api_Cell.m x0.Cells).bind fun t0 => (some (⟨x0.Rows, x0.Cols, t0, x0.Cursor, x0.Locked, x0.Insert⟩ : api_Screen)))
theorem grid_Copy.calls {B I : Gh} {h : Heap} {x0 : api_Screen} {a1 : Option Addr} {p1 : Nat} {n0 : Nat} {r : api_Screen} (H : grid_Copy.m x0 = some r)  :
    Fc Tryz.prog 15 #[.agg (cl_api_Screen x0 a1 n0 p1).toArray] [rR t_api_Cell .b a1 p1 n0 x0.Cells] B I h (fun v L => ∃ a2 p2 n1, v = .agg (cl_api_Screen r a2 n1 p2).toArray ∧ L = [rO t_api_Cell .i a2 p2 n1 r.Cells]) := by
 refine fc_of fun E hs => ?_;unfold grid_Copy.m at H;cases hs.nR d0;refine fn_of2 (rs := [.cell 2 27]) (N := 8) Tryz.func15 rfl rfl rfl rfl ?_;refine st 2 [] (k_op (nB hs (cl_api_Screen x0 a1 x0.Cells.length p1) ?_));intro b0 h hs;refine k_op (nA hs [iv 0, iv 0, .slice none 0 0, iv 0, .bool false, .bool false] (.agg #[iv 0, iv 0, .slice none 0 0, iv 0, .bool false, .bool false]) ?_);intro b1 h hs;refine st 4 [] (k_op (lB (hs.bl d1) 2 rfl ?_));obtain ⟨hk, bk⟩ := hs.call tk0 (.c (qB d2) .n);refine k_call H (fun _ m => slices_Clone_api_Cell.calls m hk) ?_;rintro t0 _ h H ⟨I, _, ⟨a0, p0, n2, rfl, rfl⟩, hk⟩;replace hs := bk hk ct1 rfl;cases hs.nO d0;refine st 1 [] (k_op (sB (v := .slice a0 t0.length p0) (hs.f d2) cw2 ?_));intro h hs;refine st 3 [] (k_op (lN (hs.bl d0) 0 6 ?_));refine k_op (sN0 (hs.f d2) (cl_api_Screen x0 a0 t0.length p0) (ones_of rfl) ?_);intro h hs;obtain rfl := si H;exact st 1 [] (k_retQ ⟨[.agg (cl_api_Screen x0 a0 t0.length p0).toArray], (.cons (.agg (by kernel_rfl) (by kernel_rfl) (by kernel_rfl) ((hs.bl d0).seg_ 0 6 (Nat.le_of_ble_eq_true rfl))) .nil), I, _, ⟨a0, p0, t0.length, rfl, rfl⟩, hs.pk (.c d2 .n)⟩)
end Go.Proofs.YtfkdbplnjlkcdaaGreatDoor.Sx
