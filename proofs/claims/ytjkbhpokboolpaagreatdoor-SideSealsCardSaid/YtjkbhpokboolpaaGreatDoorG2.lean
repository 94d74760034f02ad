import Derived.Test.YtjkbhpokboolpaaGreatDoorProg
import Derived.Test.YtjkbhpokboolpaaGreatDoorV4
import Derived.Test.YtjkbhpokboolpaaGreatDoorV5
import Derived.Test.YtjkbhpokboolpaaGreatDoorVF
import Derived.Test.YtjkbhpokboolpaaGreatDoorV6
import Derived.Test.YtjkbhpokboolpaaGreatDoorV7
import Derived.Test.YtjkbhpokboolpaaGreatDoorV9
import Derived.Test.YtjkbhpokboolpaaGreatDoorVD
import Derived.Test.YtjkbhpokboolpaaGreatDoorVC
import Derived.Test.YtjkbhpokboolpaaGreatDoorG0
import Derived.Test.YtjkbhpokboolpaaGreatDoorG1
namespace Go.Proofs.YtjkbhpokboolpaaGreatDoor.Sx
open Go
set_option maxRecDepth 100000
set_option maxHeartbeats 4000000
def six_at.m (x0 : Int) : Option Int :=
  (if 0 ≤ (w64 (2 * x0)) then (if (w64 (2 * x0)) < 128 then (if 0 ≤ (w64 ((w64 (2 * x0)) + 1)) then (if (w64 ((w64 (2 * x0)) + 1)) < 128 then ((six_digit.m (bt (⟨#[52, 48, 99, 49, 99, 50, 99, 51, 99, 52, 99, 53, 99, 54, 99, 55, 99, 56, 99, 57, 52, 97, 52, 98, 52, 99, 52, 100, 52, 101, 52, 102, 53, 48, 100, 49, 100, 50, 100, 51, 100, 52, 100, 53, 100, 54, 100, 55, 100, 56, 100, 57, 53, 97, 53, 98, 53, 99, 53, 100, 53, 101, 53, 102, 54, 48, 54, 49, 101, 50, 101, 51, 101, 52, 101, 53, 101, 54, 101, 55, 101, 56, 101, 57, 54, 97, 54, 98, 54, 99, 54, 100, 54, 101, 54, 102, 102, 48, 102, 49, 102, 50, 102, 51, 102, 52, 102, 53, 102, 54, 102, 55, 102, 56, 102, 57, 55, 97, 55, 98, 55, 99, 55, 100, 55, 101, 55, 102]⟩ : ByteArray) (w64 (2 * x0)))).bind fun t0 => ((six_digit.m (bt (⟨#[52, 48, 99, 49, 99, 50, 99, 51, 99, 52, 99, 53, 99, 54, 99, 55, 99, 56, 99, 57, 52, 97, 52, 98, 52, 99, 52, 100, 52, 101, 52, 102, 53, 48, 100, 49, 100, 50, 100, 51, 100, 52, 100, 53, 100, 54, 100, 55, 100, 56, 100, 57, 53, 97, 53, 98, 53, 99, 53, 100, 53, 101, 53, 102, 54, 48, 54, 49, 101, 50, 101, 51, 101, 52, 101, 53, 101, 54, 101, 55, 101, 56, 101, 57, 54, 97, 54, 98, 54, 99, 54, 100, 54, 101, 54, 102, 102, 48, 102, 49, 102, 50, 102, 51, 102, 52, 102, 53, 102, 54, 102, 55, 102, 56, 102, 57, 55, 97, 55, 98, 55, 99, 55, 100, 55, 101, 55, 102]⟩ : ByteArray) (w64 ((w64 (2 * x0)) + 1)))).bind fun t1 => (some (IntKind.u8.wrap ((bOr .i64 (shl .i64 t0 4) t1)))))) else none) else none) else none) else none)
theorem six_at.calls {x0 : Int} {h : Heap} {r : Int} (H : six_at.m x0 = some r)   :
    Ret Tryz.prog 170 #[iv x0] h (fun v h' => .int .u8 r = v ∧ h' = h) := by
 unfold six_at.m at H;refine fn_of (rs := [.tmp 2]) (N := 15) Tryz.func170 rfl rfl rfl rfl ?_;refine st 5 [] (k_regP 13 ?_);obtain ⟨c0, H⟩ := guard_pos H;obtain ⟨c1, H⟩ := guard_pos H;refine aRun [0, 1] 11 Keep.refl ?_;refine aP 2 (.int .u8 (bt (⟨#[52, 48, 99, 49, 99, 50, 99, 51, 99, 52, 99, 53, 99, 54, 99, 55, 99, 56, 99, 57, 52, 97, 52, 98, 52, 99, 52, 100, 52, 101, 52, 102, 53, 48, 100, 49, 100, 50, 100, 51, 100, 52, 100, 53, 100, 54, 100, 55, 100, 56, 100, 57, 53, 97, 53, 98, 53, 99, 53, 100, 53, 101, 53, 102, 54, 48, 54, 49, 101, 50, 101, 51, 101, 52, 101, 53, 101, 54, 101, 55, 101, 56, 101, 57, 54, 97, 54, 98, 54, 99, 54, 100, 54, 101, 54, 102, 102, 48, 102, 49, 102, 50, 102, 51, 102, 52, 102, 53, 102, 54, 102, 55, 102, 56, 102, 57, 55, 97, 55, 98, 55, 99, 55, 100, 55, 101, 55, 102]⟩ : ByteArray) (w64 (2 * x0)))) rfl (pr_indexStr (s := (⟨#[52, 48, 99, 49, 99, 50, 99, 51, 99, 52, 99, 53, 99, 54, 99, 55, 99, 56, 99, 57, 52, 97, 52, 98, 52, 99, 52, 100, 52, 101, 52, 102, 53, 48, 100, 49, 100, 50, 100, 51, 100, 52, 100, 53, 100, 54, 100, 55, 100, 56, 100, 57, 53, 97, 53, 98, 53, 99, 53, 100, 53, 101, 53, 102, 54, 48, 54, 49, 101, 50, 101, 51, 101, 52, 101, 53, 101, 54, 101, 55, 101, 56, 101, 57, 54, 97, 54, 98, 54, 99, 54, 100, 54, 101, 54, 102, 102, 48, 102, 49, 102, 50, 102, 51, 102, 52, 102, 53, 102, 54, 102, 55, 102, 56, 102, 57, 55, 97, 55, 98, 55, 99, 55, 100, 55, 101, 55, 102]⟩ : ByteArray)) (k := .i64) (i := (w64 (2 * x0))) (by kernel_rfl) (by kernel_rfl) (by kernel_rfl) c0 c1) Keep.refl ?_;obtain ⟨c2, H⟩ := guard_pos H;obtain ⟨c3, H⟩ := guard_pos H;refine aRun [5, 6, 7] 7 Keep.refl ?_;refine aP 8 (.int .u8 (bt (⟨#[52, 48, 99, 49, 99, 50, 99, 51, 99, 52, 99, 53, 99, 54, 99, 55, 99, 56, 99, 57, 52, 97, 52, 98, 52, 99, 52, 100, 52, 101, 52, 102, 53, 48, 100, 49, 100, 50, 100, 51, 100, 52, 100, 53, 100, 54, 100, 55, 100, 56, 100, 57, 53, 97, 53, 98, 53, 99, 53, 100, 53, 101, 53, 102, 54, 48, 54, 49, 101, 50, 101, 51, 101, 52, 101, 53, 101, 54, 101, 55, 101, 56, 101, 57, 54, 97, 54, 98, 54, 99, 54, 100, 54, 101, 54, 102, 102, 48, 102, 49, 102, 50, 102, 51, 102, 52, 102, 53, 102, 54, 102, 55, 102, 56, 102, 57, 55, 97, 55, 98, 55, 99, 55, 100, 55, 101, 55, 102]⟩ : ByteArray) (w64 ((w64 (2 * x0)) + 1)))) rfl (pr_indexStr (s := (⟨#[52, 48, 99, 49, 99, 50, 99, 51, 99, 52, 99, 53, 99, 54, 99, 55, 99, 56, 99, 57, 52, 97, 52, 98, 52, 99, 52, 100, 52, 101, 52, 102, 53, 48, 100, 49, 100, 50, 100, 51, 100, 52, 100, 53, 100, 54, 100, 55, 100, 56, 100, 57, 53, 97, 53, 98, 53, 99, 53, 100, 53, 101, 53, 102, 54, 48, 54, 49, 101, 50, 101, 51, 101, 52, 101, 53, 101, 54, 101, 55, 101, 56, 101, 57, 54, 97, 54, 98, 54, 99, 54, 100, 54, 101, 54, 102, 102, 48, 102, 49, 102, 50, 102, 51, 102, 52, 102, 53, 102, 54, 102, 55, 102, 56, 102, 57, 55, 97, 55, 98, 55, 99, 55, 100, 55, 101, 55, 102]⟩ : ByteArray)) (k := .i64) (i := (w64 ((w64 (2 * x0)) + 1))) (by kernel_rfl) (by kernel_rfl) (by kernel_rfl) c2 c3) Keep.refl ?_;refine aO1 3 rfl (o_call H (fun _ m => six_digit.calls m) ?_);rintro t0 _ _ H ⟨rfl, rfl⟩;refine ⟨Keep.refl, ?_⟩;refine aRun [4] 4 Keep.refl ?_;refine aO1 9 rfl (o_call H (fun _ m => six_digit.calls m) ?_);rintro t1 _ _ H ⟨rfl, rfl⟩;refine ⟨Keep.refl, ?_⟩;refine aRun [10, 11, 12] 0 Keep.refl ?_;refine aEnd ?_;obtain rfl := si H;exact k_retQ ⟨_, by kernel_rfl, rfl, rfl⟩
def six_Put.m (x0 : Int) : Option (Int × GoErr) :=
  (if x0 < 0 then (some (0, (GoErr.no 1))) else (if x0 ≥ 64 then (some (0, (GoErr.no 1))) else ((six_at.m x0).bind fun t0 => (some (t0, GoErr.nil)))))
theorem six_Put.calls {B I : Gh} {h : Heap} {x0 : Int} {r : (Int × GoErr)} (H : six_Put.m x0 = some r)  :
    Fc Tryz.prog 108 #[iv x0] [] B I h (fun v L => ∃ v0, v = .tuple #[.int .u8 r.1, v0] ∧ L = [rE .i v0 r.2]) := by
 refine fc_of fun E hs => ?_;unfold six_Put.m at H;refine fn_of (rs := [.tmp 2, .tmp 3]) (N := 13) Tryz.func108 rfl rfl rfl rfl ?_;refine st 9 [] (k_ite H (fun c0 H => ?_) (fun c0 H => ?_))
 ·obtain rfl := si H;exact st 12 [true] (k_retQ ⟨_, by kernel_rfl, I, _, ⟨(.iface 137 (iv 1)), rfl, rfl⟩, hs.pk (.f imEC .n)⟩)
 refine st 2 [] (k_ite H (fun c1 H => ?_) (fun c1 H => ?_))
 ·obtain rfl := si H;exact st 9 [true] (k_retQ ⟨_, by kernel_rfl, I, _, ⟨(.iface 137 (iv 1)), rfl, rfl⟩, hs.pk (.f imEC .n)⟩)
 refine st 7 [false] (k_call H (fun _ m => six_at.calls m) ?_);rintro t0 _ _ H ⟨rfl, rfl⟩;obtain rfl := si H;exact st 3 [] (k_retQ ⟨_, by kernel_rfl, I, _, ⟨(.nilIface), rfl, rfl⟩, hs.pk (.f imEN .n)⟩)
def attr_sum.l1.m (K : Nat) (x1 : (List Anon_is_n)) : Nat → Int → Int → Option (Int)
  | 0, _, _ => none
  | k + 1, x2, x0 => (letJ (α := Bool → Option (Int)) (fun x3 => (bif x3 then (if 0 ≤ x0 then (if x0 < (x1.length : Int) then (bif (at_ x1 x0).is' then (attr_sum.l1.m K x1 k (w64 (x2 + ((at_ x1 x0).n'))) (w64 (x0 + 1))) else (attr_sum.l1.m K x1 k x2 (w64 (x0 + 1)))) else none) else none) else (some (x2)))) fun j0 => (if x0 < (x1.length : Int) then (j0 true) else (j0 false)))
def attr_sum.m (K : Nat) (x0 : (List Anon_is_n)) : Option Int :=
  ((attr_sum.l1.m K x0 K 0 0).bind fun x1 => (some x1))
theorem attr_sum.calls {B I : Gh} {h : Heap} {K : Nat} {x0 : (List Anon_is_n)} {a0 : Option Addr} {p0 : Nat} {n0 : Nat} {r : Int} (H : attr_sum.m K x0 = some r)  :
    Fc Tryz.prog 109 #[.slice a0 n0 p0] [rR t_Anon_is_n .b a0 p0 n0 x0] B I h (fun v L => v = iv r ∧ L = []) := by
 refine fc_of fun E hs => ?_;unfold attr_sum.m at H;cases hs.nR d0;refine fn_of (rs := [.tmp 2]) (N := 20) Tryz.func109 rfl rfl rfl rfl ?_;refine st 16 [] ?_;obtain ⟨s0, m0, HR0⟩ := bind_some H;refine k_loop 0 (fun k' ρ h => ∃ (x2 : Int) (x1 : Int), ∃ I, attr_sum.l1.m K x0 k' x2 x1 = some s0 ∧ Fits [(3, iv x2), (6, .slice a0 x0.length p0), (7, iv (x0.length : Int)), (8, iv x1)] ρ ∧ St E [rR t_Anon_is_n .b a0 p0 x0.length x0] I h) (fun ρ h => ∃ (x4 : Int), ∃ I, x4 = s0 ∧ Fits [(3, iv x4)] ρ ∧ St E [rR t_Anon_is_n .b a0 p0 x0.length x0] I h) K ⟨0, 0, I, m0, ft, hs.pk (.c d0 .n)⟩ ?_ rfl ?_;rotate_left
 ·rintro ρ h ⟨x4, I, rfl, hf, hs⟩;have H := HR0;try dsimp only at H
  refine k_fits _ hf ?_ rfl;obtain rfl := si H;exact st 5 [] (k_retQ ⟨_, by kernel_rfl, I, _, ⟨rfl, rfl⟩, hs.pk .n⟩)
 clear HR0 m0 H;rintro k' ρ h ⟨x2, x1, I, H, hf, hs⟩;cases k' with
 | zero => cases H
 | succ k =>
  rw [attr_sum.l1.m] at H;refine k_fits _ hf ?_ rfl;refine st 1 [] ?_;obtain ⟨j0, e0, H⟩ := letJ_some H;refine k_join (fun ρ h => ∃ (x3 : Bool), ∃ I, j0 x3 = some s0 ∧ Fits [(3, iv x2), (6, .slice a0 x0.length p0), (7, iv (x0.length : Int)), (8, iv x1), (9, .bool x3)] ρ ∧ St E [rR t_Anon_is_n .b a0 p0 x0.length x0] I h) ?_ ?_
  ·refine st 1 [] (k_ite H (fun c2 H => ?_) (fun c2 H => ?_))
   ·exact st 1 [] (k_end ⟨true, I, H, ft, hs.pk (.c d0 .n)⟩)
   exact st 1 [] (k_end ⟨false, I, H, ft, hs.pk (.c d0 .n)⟩)
  clear H;rintro ρ h ⟨x3, I, H, hf, hs⟩;refine k_fits _ hf ?_ rfl;subst e0;try dsimp only at H
  cases x3
  ·rw [cond_false] at H;refine st 2 [false] (k_out rfl ?_);obtain rfl := si H;exact xE ⟨x2, I, rfl, ft, hs.pk (.c d0 .n)⟩
  rw [cond_true] at H;obtain ⟨c0, H⟩ := guard_pos H;obtain ⟨c1, H⟩ := guard_pos H;refine st 7 [true] (k_val (elemPtr a0 (x1.toNat * 2)) (pI (e := 200) (ik := .i64) (hs.sR d0) c0 c1) ?_);obtain ⟨y0, g0, q0⟩ := (hs.sR d0).toSl.seg c0 c1;obtain rfl := t_Anon_is_n.open_ q0;refine k_op (lG g0 ?_);refine k_op (nA hs [.bool false, iv 0] (.agg #[.bool false, iv 0]) ?_);intro b0 h hs;refine k_op (sN0 hs [.bool ((at_ x0 x1).is'), iv ((at_ x0 x1).n')] (ones_of rfl) ?_);intro h hs;refine st 4 [] (k_op (lB (hs.bl d0) 0 rfl ?_));refine k_spl H (fun c3 H => ?_) (fun c3 H => ?_)
  ·refine st 5 [true] (k_op (lB (hs.bl d0) 1 rfl ?_));exact st 8 [] (k_endL ⟨k, Nat.lt_succ_self _, (w64 (x2 + ((at_ x0 x1).n'))), (w64 (x1 + 1)), I, H, ft, hs.pk (.c d1 .n)⟩)
  exact st 8 [false] (k_endL ⟨k, Nat.lt_succ_self _, x2, (w64 (x1 + 1)), I, H, ft, hs.pk (.c d1 .n)⟩)
def attr_bit.m (x0 : Bool) (x1 : Int) : Option Anon_is_n :=
  (some (⟨x0, x1⟩ : Anon_is_n))
theorem attr_bit.calls {B I : Gh} {h : Heap} {x0 : Bool} {x1 : Int} {r : Anon_is_n} (H : attr_bit.m x0 x1 = some r)  :
    Fc Tryz.prog 110 #[.bool x0, iv x1] [] B I h (fun v L => v = .agg #[.bool r.is', iv r.n'] ∧ L = []) := by
 refine fc_of fun E hs => ?_;unfold attr_bit.m at H;refine fn_of2 (rs := [.cell 4 200]) (N := 8) Tryz.func110 rfl rfl rfl rfl ?_;refine st 2 [] (k_op (nA hs [.bool false, iv 0] (.agg #[.bool false, iv 0]) ?_));intro b0 h hs;refine st 6 [] (k_op (sN0 hs [.bool x0, iv x1] (ones_of rfl) ?_));intro h hs;obtain rfl := si H;exact st 1 [] (k_retQ ⟨[.agg #[.bool x0, iv x1]], (.cons (.agg (by kernel_rfl) (by kernel_rfl) (by kernel_rfl) ((hs.bl d0).seg_ 0 2 (Nat.le_of_ble_eq_true rfl))) .nil), I, _, ⟨rfl, rfl⟩, hs.pk .n⟩)
def attr_Put.m (K : Nat) (x0 : api_Attr) : Option (Int × GoErr) :=
  (if x0.Show < 0 then (some (0, (GoErr.no 1))) else (if x0.Show > 3 then (some (0, (GoErr.no 1))) else ((attr_bit.m x0.Protected 32).bind fun t1 => ((attr_bit.m x0.Numeric 16).bind fun t2 => ((attr_bit.m x0.Modified 1).bind fun t3 => ((attr_sum.m K [t1, t2, t3]).bind fun t4 => ((six_Put.m (w64 (t4 + (w64 (4 * x0.Show))))).bind fun t0 => (some (t0.1, t0.2)))))))))
theorem attr_Put.calls {B I : Gh} {h : Heap} {K : Nat} {x0 : api_Attr} {r : (Int × GoErr)} (H : attr_Put.m K x0 = some r)  :
    Fc Tryz.prog 169 #[.agg (cl_api_Attr x0).toArray] [] B I h (fun v L => ∃ v0, v = .tuple #[.int .u8 r.1, v0] ∧ L = [rE .i v0 r.2]) := by
 refine fc_of fun E hs => ?_;unfold attr_Put.m at H;refine fn_of (rs := [.tmp 2, .tmp 3]) (N := 31) Tryz.func169 rfl rfl rfl rfl ?_;refine st 2 [] (k_op (nB hs (cl_api_Attr x0) ?_));intro b0 h hs;refine st 7 [] (k_op (lB (hs.bl d0) 2 rfl ?_));refine k_ite H (fun c0 H => ?_) (fun c0 H => ?_)
 ·obtain rfl := si H;exact st 13 [true] (k_retQ ⟨_, by kernel_rfl, I, _, ⟨(.iface 137 (iv 1)), rfl, rfl⟩, hs.pk (.f imEC .n)⟩)
 refine st 2 [] (k_op (lB (hs.bl d0) 2 rfl ?_));refine k_ite H (fun c1 H => ?_) (fun c1 H => ?_)
 ·obtain rfl := si H;exact st 9 [true] (k_retQ ⟨_, by kernel_rfl, I, _, ⟨(.iface 137 (iv 1)), rfl, rfl⟩, hs.pk (.f imEC .n)⟩)
 refine st 5 [false] ?_;obtain ⟨hs0, bk0⟩ := hs.call tk0 (.c (qL d0) .n);have hs := hs0;refine k_regD hs0 20 ?_;refine aRun [0] 19 hs.keep ?_;refine aL 1 rfl hs.keep (ll hs0 d0 (n := 0) rfl) (nmL hs0 d0) ?_;refine aRun [3] 17 hs.keep ?_;refine aL 4 rfl hs.keep (ll hs0 d0 (n := 1) rfl) (nmL hs0 d0) ?_;refine aRun [6] 15 hs.keep ?_;refine aL 7 rfl hs.keep (ll hs0 d0 (n := 3) rfl) (nmL hs0 d0) ?_;refine aRun [11] 13 hs.keep ?_;refine aL 12 rfl hs.keep (ll hs0 d0 (n := 2) rfl) (nmL hs0 d0) ?_;refine aRun [13] 11 hs.keep ?_;obtain ⟨hk, bk⟩ := hs.call tk0 .n;refine aO1 2 rfl (o_call H (fun _ m => attr_bit.calls m hk) ?_);rintro t0 _ h H ⟨I, _, ⟨rfl, rfl⟩, hk⟩;replace hs := bk hk ct0 rfl;refine ⟨hs.keep, ?_⟩;obtain ⟨hk, bk⟩ := hs.call tk0 .n;refine aO1 5 rfl (o_call H (fun _ m => attr_bit.calls m hk) ?_);rintro t1 _ h H ⟨I, _, ⟨rfl, rfl⟩, hk⟩;replace hs := bk hk ct0 rfl;refine ⟨hs.keep, ?_⟩;obtain ⟨hk, bk⟩ := hs.call tk0 .n;refine aO1 8 rfl (o_call H (fun _ m => attr_bit.calls m hk) ?_);rintro t2 _ h H ⟨I, _, ⟨rfl, rfl⟩, hk⟩;replace hs := bk hk ct0 rfl;refine ⟨hs.keep, ?_⟩;refine aO1 9 rfl (nS (e := 200) hs .i t_Anon_is_n ([t0, t1, t2] : List Anon_is_n) [.bool t0.is', iv t0.n', .bool t1.is', iv t1.n', .bool t2.is', iv t2.n'] 2 (.agg #[.bool false, iv 0]) (Reps.cons (T := t_Anon_is_n) (c := [.bool t0.is', iv t0.n']) (x := t0) rfl (Reps.cons (T := t_Anon_is_n) (c := [.bool t1.is', iv t1.n']) (x := t1) rfl (Reps.cons (T := t_Anon_is_n) (c := [.bool t2.is', iv t2.n']) (x := t2) rfl (.nil : Reps t_Anon_is_n (Cl.G .i E.B I) h [] [])))) ?_);intro b1 h hs;refine ⟨hs.keep, ?_⟩;obtain ⟨hk, bk⟩ := hs.call tk0 (.c (qO d0) .n);refine aO1 10 rfl (o_call H (fun _ m => attr_sum.calls m hk) ?_);rintro t3 _ h H ⟨I, _, ⟨rfl, rfl⟩, hk⟩;replace hs := bk hk ct0 rfl;refine ⟨hs.keep, ?_⟩;refine aRun [14] 5 hs.keep ?_;obtain ⟨hk, bk⟩ := hs.call tk0 .n;refine aO1 15 rfl (o_call H (fun _ m => six_Put.calls m hk) ?_);rintro t4 _ h H ⟨I, _, ⟨v1, rfl, rfl⟩, hk⟩;replace hs := bk hk ct1 rfl;refine ⟨hs.keep, ?_⟩;refine aRun [16, 17, 18, 19] 0 hs.keep ?_;replace hs := hs.pk (.c d0 (.c d0 .n));replace hs := bk0 hs ct2 rfl;refine aEnd ?_;obtain rfl := si H;exact k_retQ ⟨_, by kernel_rfl, I, _, ⟨(v1), rfl, rfl⟩, hs.pk (.c d0 .n)⟩
def order_has.m (x0 : Int) : Option (Bool × Bool × Bool × Bool) :=
  (if x0 = 1 then (some (true, false, false, false)) else (if x0 = 2 then (some (false, true, false, false)) else (if x0 = 6 then (some (false, false, true, true)) else (if x0 = 3 then (some (false, false, true, false)) else (if x0 = 7 then (some (false, false, true, false)) else (some (false, false, false, false)))))))
theorem order_has.calls {x0 : Int} {h : Heap} {r : (Bool × Bool × Bool × Bool)} (H : order_has.m x0 = some r)   :
    Ret Tryz.prog 222 #[iv x0] h (fun v h' => .tuple #[.bool r.1, .bool r.2.1, .bool r.2.2.1, .bool r.2.2.2] = v ∧ h' = h) := by
 unfold order_has.m at H;refine fn_of (rs := [.tmp 2, .tmp 3, .tmp 4, .tmp 5]) (N := 20) Tryz.func222 rfl rfl rfl rfl ?_;refine st 25 [] (k_ite H (fun c0 H => ?_) (fun c0 H => ?_))
 ·obtain rfl := si H;exact st 20 [true] (k_retQ ⟨_, by kernel_rfl, rfl, rfl⟩)
 refine st 7 [false] (k_ite H (fun c1 H => ?_) (fun c1 H => ?_))
 ·obtain rfl := si H;exact st 20 [true] (k_retQ ⟨_, by kernel_rfl, rfl, rfl⟩)
 refine st 7 [false] (k_ite H (fun c2 H => ?_) (fun c2 H => ?_))
 ·obtain rfl := si H;exact st 24 [true] (k_retQ ⟨_, by kernel_rfl, rfl, rfl⟩)
 refine st 7 [false] (k_ite H (fun c3 H => ?_) (fun c3 H => ?_))
 ·obtain rfl := si H;exact st 22 [true, true] (k_retQ ⟨_, by kernel_rfl, rfl, rfl⟩)
 refine st 4 [false] (k_ite H (fun c4 H => ?_) (fun c4 H => ?_))
 ·obtain rfl := si H;exact st 20 [true] (k_retQ ⟨_, by kernel_rfl, rfl, rfl⟩)
 obtain rfl := si H;exact st 16 [false] (k_retQ ⟨_, by kernel_rfl, rfl, rfl⟩)
def order_Right_1.m (x0 : Int) : Option Bool :=
  ((attr_Char.m x0).bind fun t0 => (some (!t0)))
theorem order_Right_1.calls {x0 : Int} {h : Heap} {r : Bool} (H : order_Right_1.m x0 = some r)   :
    Ret Tryz.prog 223 #[.int .u8 x0] h (fun v h' => .bool r = v ∧ h' = h) := by
 unfold order_Right_1.m at H;refine fn_of (rs := [.tmp 2]) (N := 6) Tryz.func223 rfl rfl rfl rfl ?_;refine st 7 [] (k_call H (fun _ m => attr_Char.calls m) ?_);rintro t0 _ _ H ⟨rfl, rfl⟩;obtain rfl := si H;exact st 3 [] (k_retQ ⟨_, by kernel_rfl, rfl, rfl⟩)
def slices_IndexFunc_bytes__order_Right_1.l1.m (K : Nat) (x1 : (List Int)) : Nat → Int → Option (Int ⊕ (Unit))
  | 0, _ => none
  | k + 1, x0 => (letJ (α := Bool → Option (Int ⊕ (Unit))) (fun x2 => (bif x2 then (if 0 ≤ x0 then (if x0 < (x1.length : Int) then ((order_Right_1.m (at_ x1 x0)).bind fun t0 => bif t0 then (some (Sum.inl x0)) else (slices_IndexFunc_bytes__order_Right_1.l1.m K x1 k (w64 (x0 + 1)))) else none) else none) else (some (Sum.inr ())))) fun j0 => (if x0 < (x1.length : Int) then (j0 true) else (j0 false)))
def slices_IndexFunc_bytes__order_Right_1.m (K : Nat) (x0 : (List Int)) : Option Int :=
  ((slices_IndexFunc_bytes__order_Right_1.l1.m K x0 K 0).bind fun s0 => match s0 with | .inl q => (some q) | .inr _ => (some (-1)))
theorem slices_IndexFunc_bytes__order_Right_1.calls {G : Gh} {K : Nat} {x0 : (List Int)} {a0 : Option Addr} {p0 : Nat} {n0 : Nat} {h : Heap} {r : Int} (H : slices_IndexFunc_bytes__order_Right_1.m K x0 = some r)  (s0 : Sn (tInt .u8) G h a0 p0 n0 x0) :
    Ret Tryz.prog 172 #[.slice a0 n0 p0, .func (.func 223) #[] #[]] h (fun v h' => iv r = v ∧ h' = h) := by
 unfold slices_IndexFunc_bytes__order_Right_1.m at H;obtain rfl := s0.len.symm;refine fn_of (rs := [.tmp 4]) (N := 19) Tryz.func172 rfl rfl rfl rfl ?_;refine st 12 [] ?_;obtain ⟨s1, m0, HR0⟩ := bind_some H;refine k_loop 0 (fun k' ρ h0 => ∃ (x1 : Int), slices_IndexFunc_bytes__order_Right_1.l1.m K x0 k' x1 = some s1 ∧ Fits [(0, .slice a0 x0.length p0), (1, .func (.func 223) #[] #[]), (7, iv (x0.length : Int)), (8, iv x1)] ρ ∧ h = h0) (fun ρ h0 => Sum.inr () = s1 ∧ Fits [] ρ ∧ h = h0) K ⟨0, m0, ft, rfl⟩ ?_ rfl ?_;rotate_left
 ·rintro ρ h0 ⟨rfl, hf, rfl⟩;have H := HR0;try dsimp only at H
  refine k_fits _ hf ?_ rfl;obtain rfl := si H;exact st 4 [] (k_retQ ⟨_, by kernel_rfl, rfl, rfl⟩)
 clear m0 H;rintro k' ρ h0 ⟨x1, H, hf, rfl⟩;cases k' with
 | zero => cases H
 | succ k =>
  rw [slices_IndexFunc_bytes__order_Right_1.l1.m] at H;refine k_fits _ hf ?_ rfl;refine st 1 [] ?_;obtain ⟨j0, e0, H⟩ := letJ_some H;refine k_join (fun ρ h0 => ∃ (x2 : Bool), j0 x2 = some s1 ∧ Fits [(0, .slice a0 x0.length p0), (1, .func (.func 223) #[] #[]), (7, iv (x0.length : Int)), (8, iv x1), (9, .bool x2)] ρ ∧ h = h0) ?_ ?_
  ·refine st 1 [] (k_ite H (fun c2 H => ?_) (fun c2 H => ?_))
   ·exact st 1 [] (k_end ⟨true, H, ft, rfl⟩)
   exact st 1 [] (k_end ⟨false, H, ft, rfl⟩)
  clear H;rintro ρ h0 ⟨x2, H, hf, rfl⟩;refine k_fits _ hf ?_ rfl;subst e0;try dsimp only at H
  cases x2
  ·rw [cond_false] at H;refine st 2 [false] (k_out rfl ?_);obtain rfl := si H;exact xE ⟨rfl, trivial, rfl⟩
  rw [cond_true] at H;obtain ⟨c0, H⟩ := guard_pos H;obtain ⟨c1, H⟩ := guard_pos H;refine st 15 [true] (k_val (elemPtr a0 (x1.toNat * 1)) (pI (e := 5) (ik := .i64) s0 c0 c1) ?_);refine k_op (lC (s0.cell1 c0 c1) ?_);refine k_call H (fun _ m => order_Right_1.calls m) ?_;rintro t0 _ _ H ⟨rfl, rfl⟩;cases t0
  ·rw [cond_false] at H;exact st 8 [false] (k_endL ⟨k, Nat.lt_succ_self _, (w64 (x1 + 1)), H, ft, rfl⟩)
  rw [cond_true] at H;refine st 7 [true] (k_retQ (krL ?_));obtain rfl := si H;obtain rfl := Option.some.inj HR0;exact ⟨_, by kernel_rfl, rfl, rfl⟩
def slices_ContainsFunc_bytes__order_Right_1.m (K : Nat) (x0 : (List Int)) : Option Bool :=
  ((slices_IndexFunc_bytes__order_Right_1.m K x0).bind fun t0 => (some (decide (t0 ≥ 0))))
theorem slices_ContainsFunc_bytes__order_Right_1.calls {B I : Gh} {h : Heap} {K : Nat} {x0 : (List Int)} {a0 : Option Addr} {p0 : Nat} {n0 : Nat} {r : Bool} (H : slices_ContainsFunc_bytes__order_Right_1.m K x0 = some r)  :
    Fc Tryz.prog 176 #[.slice a0 n0 p0, .func (.func 223) #[] #[]] [rR (tInt .u8) .b a0 p0 n0 x0] B I h (fun v L => v = .bool r ∧ L = []) := by
 refine fc_of fun E hs => ?_;unfold slices_ContainsFunc_bytes__order_Right_1.m at H;cases hs.nR d0;refine fn_of (rs := [.tmp 4]) (N := 9) Tryz.func176 rfl rfl rfl rfl ?_;refine st 8 [] (k_call H (fun _ m => slices_IndexFunc_bytes__order_Right_1.calls m (hs.sR d0)) ?_);rintro t0 _ _ H ⟨rfl, rfl⟩;obtain rfl := si H;exact st 3 [] (k_retQ ⟨_, by kernel_rfl, I, _, ⟨rfl, rfl⟩, hs.pk .n⟩)
def order_Right.m (K : Nat) (x0 : api_Order) (x2 : Int) : Option GoErr :=
  (if x0.Kind < 1 then (some (GoErr.no 5)) else (if x0.Kind > 7 then (some (GoErr.no 5)) else (letJ (α := Bool → Bool → Bool → Bool → Option GoErr) (fun x3 x4 x1 x5 => ((attr_Put.m K x0.Attr).bind fun t1 => (letJ (α := Bool → Option GoErr) (fun x6 => (bif x6 then (some (GoErr.no 1)) else (letJ (α := Bool → Option GoErr) (fun x7 => (bif x7 then (some (GoErr.no 1)) else (letJ (α := Bool → Option GoErr) (fun x8 => (bif x8 then (some (GoErr.no 1)) else (bif x1 then (if x0.Addr < 0 then (some (GoErr.no 4)) else (if x0.Addr ≥ x2 then (some (GoErr.no 4)) else (some GoErr.nil))) else (some GoErr.nil)))) fun j1 => (bif x5 then ((order_Right_1.m x0.Char).bind fun t3 => bif t3 then (j1 true) else (bif x1 then (j1 false) else (if x0.Addr = 0 then (j1 false) else (j1 true)))) else (if x0.Char = 0 then (bif x1 then (j1 false) else (if x0.Addr = 0 then (j1 false) else (j1 true))) else (j1 true)))))) fun j2 => (bif x4 then (if t1.2 = GoErr.nil then (j2 false) else (j2 true)) else (bif ((x0.Attr.Protected == false) && ((x0.Attr.Numeric == false) && ((x0.Attr.Show == 0) && ((x0.Attr.Modified == false) && true)))) then (j2 false) else (j2 true)))))) fun j3 => (bif (x3 != (decide ((x0.Text.length : Int) > 0))) then (j3 true) else ((slices_ContainsFunc_bytes__order_Right_1.m K x0.Text).bind fun t2 => bif t2 then (j3 true) else (j3 false)))))) fun j0 => ((order_has.m x0.Kind).bind fun t0 => (bif t0.2.1 then (bif t0.2.2.1 then (bif t0.2.2.2 then (j0 t0.1 true true true) else (j0 t0.1 true true false)) else (bif t0.2.2.2 then (j0 t0.1 true false true) else (j0 t0.1 true false false))) else (bif t0.2.2.1 then (bif t0.2.2.2 then (j0 t0.1 false true true) else (j0 t0.1 false true false)) else (bif t0.2.2.2 then (j0 t0.1 false false true) else (j0 t0.1 false false false))))))))
theorem order_Right.calls {B I : Gh} {h : Heap} {K : Nat} {x0 : api_Order} {x1 : Int} {a0 : Option Addr} {p0 : Nat} {n0 : Nat} {r : GoErr} (H : order_Right.m K x0 x1 = some r)  :
    Fc Tryz.prog 167 #[.agg (cl_api_Order x0 a0 n0 p0).toArray, iv x1] [rR (tInt .u8) .b a0 p0 n0 x0.Text] B I h (fun v L => ∃ v0, v = v0 ∧ L = [rE .i v0 r]) := by
 refine fc_of fun E hs => ?_;unfold order_Right.m at H;cases hs.nR d0;refine fn_of (rs := [.tmp 4]) (N := 107) Tryz.func167 rfl rfl rfl rfl ?_;refine st 2 [] (k_op (nB hs (cl_api_Order x0 a0 x0.Text.length p0) ?_));intro b0 h hs;refine st 6 [] (k_op (lB (hs.bl d0) 0 rfl ?_));refine k_ite H (fun c4 H => ?_) (fun c4 H => ?_)
 ·obtain rfl := si H;exact st 12 [true] (k_retQ ⟨_, by kernel_rfl, I, _, ⟨(.iface 137 (iv 5)), rfl, rfl⟩, hs.pk (.f imEC .n)⟩)
 refine st 2 [] (k_op (lB (hs.bl d0) 0 rfl ?_));refine k_ite H (fun c5 H => ?_) (fun c5 H => ?_)
 ·obtain rfl := si H;exact st 8 [true] (k_retQ ⟨_, by kernel_rfl, I, _, ⟨(.iface 137 (iv 5)), rfl, rfl⟩, hs.pk (.f imEC .n)⟩)
 refine st 5 [false] ?_;obtain ⟨j0, e1, H⟩ := letJ_some H;refine k_joinT (fun T ρ h => ∃ (x6 : Bool) (x4 : Bool) (x2 : Bool) (x3 : Bool), ∃ I, j0 x6 x4 x2 x3 = some r ∧ Fits [(1, iv x1), (2, pv b0), (5, .bool x6), (6, .bool x4), (7, .bool x2), (8, .bool x3)] ρ ∧ St E T I h) hs tl0 ?_ ?_
 ·refine st 2 [] (k_op (lB (hs.bl d0) 0 rfl ?_));refine k_call H (fun _ m => order_has.calls m) ?_;rintro t0 _ _ H ⟨rfl, rfl⟩;refine st 2 [] (k_if H (fun c6 H => ?_) (fun c6 H => ?_))
  ·refine k_if H (fun c7 H => ?_) (fun c7 H => ?_)
   ·refine k_if H (fun c8 H => ?_) (fun c8 H => ?_)
    ·exact st 5 [] (k_end ⟨t0.1, true, true, true, I, H, ft, hs⟩)
    exact st 5 [] (k_end ⟨t0.1, true, true, false, I, H, ft, hs⟩)
   refine k_if H (fun c9 H => ?_) (fun c9 H => ?_)
   ·exact st 5 [] (k_end ⟨t0.1, true, false, true, I, H, ft, hs⟩)
   exact st 5 [] (k_end ⟨t0.1, true, false, false, I, H, ft, hs⟩)
  refine k_if H (fun cA H => ?_) (fun cA H => ?_)
  ·refine k_if H (fun cB H => ?_) (fun cB H => ?_)
   ·exact st 5 [] (k_end ⟨t0.1, false, true, true, I, H, ft, hs⟩)
   exact st 5 [] (k_end ⟨t0.1, false, true, false, I, H, ft, hs⟩)
  refine k_if H (fun cC H => ?_) (fun cC H => ?_)
  ·exact st 5 [] (k_end ⟨t0.1, false, false, true, I, H, ft, hs⟩)
  exact st 5 [] (k_end ⟨t0.1, false, false, false, I, H, ft, hs⟩)
 clear H;rintro ρ h ⟨x6, x4, x2, x3, I, H, hf, hs⟩;refine k_fits _ hf ?_ rfl;subst e1;try dsimp only at H
 refine st 3 [] (k_op (lN (hs.bl d0) 2 4 ?_));obtain ⟨hk, bk⟩ := hs.call tk0 .n;refine k_call H (fun _ m => attr_Put.calls m hk) ?_;rintro t3 _ h H ⟨I, _, ⟨v1, rfl, rfl⟩, hk⟩;replace hs := bk hk ct1 rfl;refine st 13 [] (k_jT H hs (fun x7 => [(1, iv x1), (2, pv b0), (6, .bool x4), (7, .bool x2), (8, .bool x3), (10, v1), (11, .func (.func 223) #[] #[]), (35, .bool x7)]) ?_ ?_ ?_)
 ·intro j2 H;refine st 3 [] (k_op (lB (hs.bl d1) 1 rfl ?_));refine st 2 [] (k_if H (fun cD H => ?_) (fun cD H => ?_))
  ·exact st 8 [] (k_end ⟨true, I, H, ft, hs⟩)
  refine st 2 [] (k_op (lB (hs.bl d1) 1 rfl ?_));obtain ⟨hk, bk⟩ := hs.call tk0 (.c (qB d2) .n);refine st 1 [] (k_call H (fun _ m => slices_ContainsFunc_bytes__order_Right_1.calls m hk) ?_);rintro t1 _ h H ⟨I, _, ⟨rfl, rfl⟩, hk⟩;replace hs := bk hk ct0 rfl;cases t1
  ·rw [cond_false] at H;exact st 3 [] (k_end ⟨false, I, H, ft, hs⟩)
  rw [cond_true] at H;exact st 3 [] (k_end ⟨true, I, H, ft, hs⟩)
 ·intro ρ h I H hs;obtain rfl := si H;exact st 6 [true] (k_retQ ⟨_, by kernel_rfl, I, _, ⟨(.iface 137 (iv 1)), rfl, rfl⟩, hs.pk (.f imEC .n)⟩)
 intro ρ h I H hs;refine st 2 [false] ?_;obtain ⟨j1, e0, H⟩ := letJ_some H;refine k_joinT (fun T ρ h => ∃ (x5 : Bool), ∃ I, j1 x5 = some r ∧ Fits [(1, iv x1), (2, pv b0), (7, .bool x2), (8, .bool x3), (11, .func (.func 223) #[] #[]), (49, .bool x5)] ρ ∧ St E T I h) hs tl1 ?_ ?_
 ·refine st 1 [] (k_if H (fun c1 H => ?_) (fun c1 H => ?_))
  ·rcases (hs.er d0).cases with ⟨c2, rfl⟩ | ⟨c2, t4, u0, rfl⟩
   ·rw [if_pos c2] at H;refine st 5 [] (k_val (.bool true) (pr_bool (by kernel_rfl) c1) ?_);exact st 10 [] (k_end ⟨false, I, H, ft, hs.pk pk1⟩)
   rw [if_neg c2] at H;exact st 16 [] (k_end ⟨true, I, H, ft, hs.pk pk1⟩)
  refine st 5 [] (k_val (.bool false) (pr_bool (by kernel_rfl) c1) ?_);refine st 3 [] (k_op (lN (hs.bl d1) 2 4 ?_));rcases bool_or ((x0.Attr.Protected == false) && ((x0.Attr.Numeric == false) && ((x0.Attr.Show == 0) && ((x0.Attr.Modified == false) && true)))) with c0 | c0
  ·replace H := bif_f c0 H;refine st 1 [] (k_op (owp_run (.bool true) (run_bool (run_neAgg (xs := (cl_api_Attr x0.Attr).toArray) (ys := #[.bool false, .bool false, iv 0, .bool false]) (by kernel_rfl) (by kernel_rfl) (by kernel_rfl) (eqB_run (b := ((x0.Attr.Protected == false) && ((x0.Attr.Numeric == false) && ((x0.Attr.Show == 0) && ((x0.Attr.Modified == false) && true))))) (by kernel_rfl))) (notB c0)) ?_));exact st 4 [] (k_end ⟨true, I, H, ft, hs.pk pk1⟩)
  replace H := bif_t c0 H;refine st 1 [] (k_op (owp_run (.bool false) (run_bool (run_neAgg (xs := (cl_api_Attr x0.Attr).toArray) (ys := #[.bool false, .bool false, iv 0, .bool false]) (by kernel_rfl) (by kernel_rfl) (by kernel_rfl) (eqB_run (b := ((x0.Attr.Protected == false) && ((x0.Attr.Numeric == false) && ((x0.Attr.Show == 0) && ((x0.Attr.Modified == false) && true))))) (by kernel_rfl))) (notB c0)) ?_));exact st 4 [] (k_end ⟨false, I, H, ft, hs.pk pk1⟩)
 clear H;rintro ρ h ⟨x5, I, H, hf, hs⟩;refine k_fits _ hf ?_ rfl;subst e0;try dsimp only at H
 cases x5;rotate_left
 ·rw [cond_true] at H;obtain rfl := si H;exact st 6 [true] (k_retQ ⟨_, by kernel_rfl, I, _, ⟨(.iface 137 (iv 1)), rfl, rfl⟩, hs.pk (.f imEC .n)⟩)
 rw [cond_false] at H;refine st 2 [false] (k_jT H hs (fun x8 => [(1, iv x1), (2, pv b0), (7, .bool x2), (66, .bool x8)]) ?_ ?_ ?_)
 ·intro j3 H;refine st 1 [] (k_if H (fun c3 H => ?_) (fun c3 H => ?_));rotate_left
  ·refine st 7 [] (k_val (.bool false) (pr_bool (by kernel_rfl) c3) ?_);refine st 3 [] (k_op (lB (hs.bl d0) 7 rfl ?_));refine k_iteN H (fun cG H => ?_) (fun cG H => ?_);rotate_left
   ·exact st 13 [] (k_end ⟨true, I, H, ft, hs⟩)
   refine st 3 [] (k_if H (fun cH H => ?_) (fun cH H => ?_))
   ·exact st 9 [] (k_end ⟨false, I, H, ft, hs⟩)
   refine st 3 [] (k_op (lB (hs.bl d0) 6 rfl ?_));refine k_iteN H (fun cI H => ?_) (fun cI H => ?_)
   ·exact st 4 [] (k_end ⟨false, I, H, ft, hs⟩)
   exact st 4 [] (k_end ⟨true, I, H, ft, hs⟩)
  refine st 3 [] (k_op (lB (hs.bl d0) 7 rfl ?_));refine k_call H (fun _ m => order_Right_1.calls m) ?_;rintro t2 _ _ H ⟨rfl, rfl⟩;cases t2;rotate_left
  ·rw [cond_true] at H;exact st 21 [] (k_end ⟨true, I, H, ft, hs⟩)
  rw [cond_false] at H;refine st 2 [] (k_val (.bool true) (pr_bool (by kernel_rfl) c3) ?_);refine st 8 [] (k_if H (fun cE H => ?_) (fun cE H => ?_))
  ·exact st 9 [] (k_end ⟨false, I, H, ft, hs⟩)
  refine st 3 [] (k_op (lB (hs.bl d0) 6 rfl ?_));refine k_iteN H (fun cF H => ?_) (fun cF H => ?_)
  ·exact st 4 [] (k_end ⟨false, I, H, ft, hs⟩)
  exact st 4 [] (k_end ⟨true, I, H, ft, hs⟩)
 ·intro ρ h I H hs;obtain rfl := si H;exact st 6 [true] (k_retQ ⟨_, by kernel_rfl, I, _, ⟨(.iface 137 (iv 1)), rfl, rfl⟩, hs.pk (.f imEC .n)⟩)
 intro ρ h I H hs;refine st 3 [false] (k_if H (fun cJ H => ?_) (fun cJ H => ?_));rotate_left
 ·obtain rfl := si H;exact st 20 [false] (k_retQ ⟨_, by kernel_rfl, I, _, ⟨(.nilIface), rfl, rfl⟩, hs.pk (.f imEN .n)⟩)
 refine st 2 [] (k_op (lB (hs.bl d0) 6 rfl ?_));refine k_ite H (fun cK H => ?_) (fun cK H => ?_)
 ·obtain rfl := si H;exact st 15 [true] (k_retQ ⟨_, by kernel_rfl, I, _, ⟨(.iface 137 (iv 4)), rfl, rfl⟩, hs.pk (.f imEC .n)⟩)
 refine st 2 [] (k_op (lB (hs.bl d0) 6 rfl ?_));refine st 1 [] (k_ite H (fun cL H => ?_) (fun cL H => ?_))
 ·obtain rfl := si H;exact st 10 [true] (k_retQ ⟨_, by kernel_rfl, I, _, ⟨(.iface 137 (iv 4)), rfl, rfl⟩, hs.pk (.f imEC .n)⟩)
 obtain rfl := si H;exact st 11 [false] (k_retQ ⟨_, by kernel_rfl, I, _, ⟨(.nilIface), rfl, rfl⟩, hs.pk (.f imEN .n)⟩)
def order_byteOf.m (x0 : Int) : Option Int :=
  (if 0 ≤ x0 then (if x0 < 8 then (some (at_ [0, 0, 29, 17, 19, 5, 60, 18] x0)) else none) else none)
theorem order_byteOf.calls {x0 : Int} {h : Heap} {r : Int} (H : order_byteOf.m x0 = some r)   :
    Ret Tryz.prog 168 #[iv x0] h (fun v h' => .int .u8 r = v ∧ h' = h) := by
 unfold order_byteOf.m at H;refine fn_of (rs := [.tmp 2]) (N := 6) Tryz.func168 rfl rfl rfl rfl ?_;obtain ⟨c0, H⟩ := guard_pos H;obtain ⟨c1, H⟩ := guard_pos H;refine st 8 [] (k_val (.int .u8 (at_ [0, 0, 29, 17, 19, 5, 60, 18] x0)) (pr_indexAgg (e := 5) (l := [0, 0, 29, 17, 19, 5, 60, 18]) (n := 8) (kk := .i64) (by kernel_rfl) rfl (by kernel_rfl) (by kernel_rfl) (by kernel_rfl) (by kernel_rfl) c0 c1) ?_);obtain rfl := si H;exact st 2 [] (k_retQ ⟨_, by kernel_rfl, rfl, rfl⟩)
def addr_sized.m (x0 : Int) : Option Bool :=
  (if x0 ≥ 1 then (some (decide (x0 ≤ 16383))) else (some false))
theorem addr_sized.calls {x0 : Int} {h : Heap} {r : Bool} (H : addr_sized.m x0 = some r)   :
    Ret Tryz.prog 178 #[iv x0] h (fun v h' => .bool r = v ∧ h' = h) := by
 unfold addr_sized.m at H;refine fn_of (rs := [.tmp 2]) (N := 9) Tryz.func178 rfl rfl rfl rfl ?_;refine st 7 [] (k_ite H (fun c0 H => ?_) (fun c0 H => ?_))
 ·obtain rfl := si H;exact st 6 [] (k_retQ ⟨_, by kernel_rfl, rfl, rfl⟩)
 obtain rfl := si H;exact st 6 [] (k_retQ ⟨_, by kernel_rfl, rfl, rfl⟩)
def addr_Long.m (x0 : Int) : Option Bool :=
  (some (decide (x0 > 4096)))
theorem addr_Long.calls {x0 : Int} {h : Heap} {r : Bool} (H : addr_Long.m x0 = some r)   :
    Ret Tryz.prog 179 #[iv x0] h (fun v h' => .bool r = v ∧ h' = h) := by
 unfold addr_Long.m at H;refine fn_of (rs := [.tmp 2]) (N := 5) Tryz.func179 rfl rfl rfl rfl ?_;obtain rfl := si H;exact st 10 [] (k_retQ ⟨_, by kernel_rfl, rfl, rfl⟩)
def addr_Put.l1.m (K : Nat) (x1 : Int) : Nat → Int → (List Int) → Option (((List Int) × GoErr) ⊕ ((List Int)))
  | 0, _, _ => none
  | k + 1, x0, x2 => (letJ (α := Bool → Option (((List Int) × GoErr) ⊕ ((List Int)))) (fun x3 => (bif x3 then (if 0 ≤ x0 then (if x0 < ([(shr .i64 x1 6), (bAnd .i64 x1 63)].length : Int) then ((six_Put.m (at_ [(shr .i64 x1 6), (bAnd .i64 x1 63)] x0)).bind fun t0 => (if t0.2 = GoErr.nil then (if x0 < 2 then (addr_Put.l1.m K x1 k (w64 (x0 + 1)) (x2.set x0.toNat t0.1)) else none) else (some (Sum.inl ((List.replicate 2 (0 : Int)), t0.2))))) else none) else none) else (some (Sum.inr x2)))) fun j0 => (if x0 < (2 : Int) then (j0 true) else (j0 false)))
def addr_Put.m (K : Nat) (x0 : Int) (x1 : Int) : Option ((List Int) × GoErr) :=
  (letJ (α := Bool → Option ((List Int) × GoErr)) (fun x2 => (bif x2 then (some ((List.replicate 2 (0 : Int)), (GoErr.no 1))) else (letJ (α := Bool → Option ((List Int) × GoErr)) (fun x3 => (bif x3 then (some ((List.replicate 2 (0 : Int)), (GoErr.no 4))) else ((addr_Long.m x1).bind fun t1 => bif t1 then (some ([(IntKind.u8.wrap ((shr .i64 x0 8))), (IntKind.u8.wrap (x0))], GoErr.nil)) else ((addr_Put.l1.m K x0 K 0 (List.replicate 2 (0 : Int))).bind fun s0 => match s0 with | .inl q => (some q) | .inr x4 => (some (x4, GoErr.nil)))))) fun j0 => (if x0 < 0 then (j0 true) else (if x0 ≥ x1 then (j0 true) else (j0 false)))))) fun j1 => ((addr_sized.m x1).bind fun t0 => bif t0 then (j1 false) else (j1 true)))
theorem addr_Put.calls {B I : Gh} {h : Heap} {K : Nat} {x0 : Int} {x4 : Int} {r : ((List Int) × GoErr)} (H : addr_Put.m K x0 x4 = some r)  :
    Fc Tryz.prog 120 #[iv x0, iv x4] [] B I h (fun v L => ∃ v0, v = .tuple #[.agg (List.map (Value.int .u8) r.1).toArray, v0] ∧ L = [rE .i v0 r.2] ∧ List.length r.1 = 2) := by
 refine fc_of fun E hs => ?_;unfold addr_Put.m at H;refine fn_of2 (rs := [.cell 4 216, .tmp 5]) (N := 61) Tryz.func120 rfl rfl rfl rfl ?_;refine st 2 [] (k_op (nA hs (List.map (Value.int .u8) (List.replicate 2 (0 : Int))) (.agg (List.map (Value.int .u8) (List.replicate 2 (0 : Int))).toArray) ?_));intro b0 h hs;refine st 5 [] ?_;obtain ⟨j0, e1, H⟩ := letJ_some H;refine k_join (fun ρ h => ∃ (x5 : Bool), ∃ I, j0 x5 = some r ∧ Fits [(0, iv x0), (1, iv x4), (4, pv b0), (11, .bool x5)] ρ ∧ St E [rB b0 (List.map (Value.int .u8) (List.replicate 2 (0 : Int))) 216] I h) ?_ ?_
 ·refine st 2 [] (k_call H (fun _ m => addr_sized.calls m) ?_);rintro t2 _ _ H ⟨rfl, rfl⟩;cases t2
  ·rw [cond_false] at H;exact st 3 [] (k_end ⟨true, I, H, ft, hs.pk (.c d0 .n)⟩)
  rw [cond_true] at H;exact st 3 [] (k_end ⟨false, I, H, ft, hs.pk (.c d0 .n)⟩)
 clear H;rintro ρ h ⟨x5, I, H, hf, hs⟩;refine k_fits _ hf ?_ rfl;subst e1;try dsimp only at H
 cases x5;rotate_left
 ·rw [cond_true] at H;refine st 5 [true] (k_op (sAN (l2 := (List.replicate 2 (0 : Int))) hs (List.length_replicate (n := 2) (a := (0 : Int))) (List.length_replicate (n := 2) (a := (0 : Int))) ?_));intro h hs;obtain rfl := si H;exact st 2 [] (k_retQ ⟨[.agg (List.map (Value.int .u8) (List.replicate 2 (0 : Int))).toArray, .iface 137 (iv 1)], (.cons (.agg (by kernel_rfl) (by kernel_rfl) (by kernel_rfl) ((hs.bl d0).arrSeg (List.length_replicate (n := 2) (a := (0 : Int))))) (.cons (.tmp (by kernel_rfl)) .nil)), I, _, ⟨(.iface 137 (iv 1)), rfl, rfl, (List.length_replicate (n := 2) (a := (0 : Int)))⟩, hs.pk (.f imEC .n)⟩)
 rw [cond_false] at H;refine st 2 [false] ?_;obtain ⟨j1, e0, H⟩ := letJ_some H;refine k_join (fun ρ h => ∃ (x6 : Bool), ∃ I, j1 x6 = some r ∧ Fits [(0, iv x0), (1, iv x4), (4, pv b0), (17, .bool x6)] ρ ∧ St E [rB b0 (List.map (Value.int .u8) (List.replicate 2 (0 : Int))) 216] I h) ?_ ?_
 ·refine st 2 [] (k_ite H (fun c4 H => ?_) (fun c4 H => ?_))
  ·exact st 7 [] (k_end ⟨true, I, H, ft, hs.pk (.c d0 .n)⟩)
  refine st 3 [] (k_ite H (fun c5 H => ?_) (fun c5 H => ?_))
  ·exact st 3 [] (k_end ⟨true, I, H, ft, hs.pk (.c d0 .n)⟩)
  exact st 3 [] (k_end ⟨false, I, H, ft, hs.pk (.c d0 .n)⟩)
 clear H;rintro ρ h ⟨x6, I, H, hf, hs⟩;refine k_fits _ hf ?_ rfl;subst e0;try dsimp only at H
 cases x6;rotate_left
 ·rw [cond_true] at H;refine st 5 [true] (k_op (sAN (l2 := (List.replicate 2 (0 : Int))) hs (List.length_replicate (n := 2) (a := (0 : Int))) (List.length_replicate (n := 2) (a := (0 : Int))) ?_));intro h hs;obtain rfl := si H;exact st 2 [] (k_retQ ⟨[.agg (List.map (Value.int .u8) (List.replicate 2 (0 : Int))).toArray, .iface 137 (iv 4)], (.cons (.agg (by kernel_rfl) (by kernel_rfl) (by kernel_rfl) ((hs.bl d0).arrSeg (List.length_replicate (n := 2) (a := (0 : Int))))) (.cons (.tmp (by kernel_rfl)) .nil)), I, _, ⟨(.iface 137 (iv 4)), rfl, rfl, (List.length_replicate (n := 2) (a := (0 : Int)))⟩, hs.pk (.f imEC .n)⟩)
 rw [cond_false] at H;refine st 4 [false] (k_call H (fun _ m => addr_Long.calls m) ?_);rintro t3 _ _ H ⟨rfl, rfl⟩;cases t3;rotate_left
 ·rw [cond_true] at H;refine st 11 [true] (k_op (sAN (l2 := [(IntKind.u8.wrap ((shr .i64 x0 8))), (IntKind.u8.wrap (x0))]) hs (List.length_replicate (n := 2) (a := (0 : Int))) rfl ?_));intro h hs;obtain rfl := si H;exact st 2 [] (k_retQ ⟨[.agg (List.map (Value.int .u8) [(IntKind.u8.wrap ((shr .i64 x0 8))), (IntKind.u8.wrap (x0))]).toArray, .nilIface], (.cons (.agg (by kernel_rfl) (by kernel_rfl) (by kernel_rfl) ((hs.bl d0).arrSeg rfl)) (.cons (.tmp (by kernel_rfl)) .nil)), I, _, ⟨(.nilIface), rfl, rfl, rfl⟩, hs.pk (.f imEN .n)⟩)
 rw [cond_false] at H;refine st 7 [false] (k_op (nA hs (List.map (Value.int .u8) (List.replicate 2 (0 : Int))) (.agg (List.map (Value.int .u8) (List.replicate 2 (0 : Int))).toArray) ?_));intro b1 h hs;refine st 8 [] (k_op (nS (e := 3) hs .i (tInt .i64) ([(shr .i64 x0 6), (bAnd .i64 x0 63)] : List Int) [iv (shr .i64 x0 6), iv (bAnd .i64 x0 63)] 1 (iv 0) (Reps.int (I := (Cl.G .i E.B I)) (k := .i64) (l := [(shr .i64 x0 6), (bAnd .i64 x0 63)])) ?_));intro b2 h hs;refine st 4 [] ?_;obtain ⟨s0, m0, HR0⟩ := bind_some H;refine k_loop 1 (fun k' ρ h => ∃ (x1 : Int) (x2 : List Int), ∃ I, addr_Put.l1.m K x0 k' x1 x2 = some s0 ∧ Fits [(4, pv b0), (6, pv b1), (40, .slice (sa b2) 2 2), (41, iv (2 : Int)), (42, iv x1)] ρ ∧ List.length x2 = 2 ∧ St E [rO (tInt .i64) .i (sa b2) 2 2 [(shr .i64 x0 6), (bAnd .i64 x0 63)], rB b1 (List.map (Value.int .u8) x2) 216, rB b0 (List.map (Value.int .u8) (List.replicate 2 (0 : Int))) 216] I h) (fun ρ h => ∃ (x3 : List Int), ∃ I, Sum.inr x3 = s0 ∧ Fits [(4, pv b0), (6, pv b1)] ρ ∧ List.length x3 = 2 ∧ St E [rB b1 (List.map (Value.int .u8) x3) 216, rB b0 (List.map (Value.int .u8) (List.replicate 2 (0 : Int))) 216] I h) K ⟨0, (List.replicate 2 (0 : Int)), I, m0, ft, (List.length_replicate (n := 2) (a := (0 : Int))), hs.pk (.c d0 (.c d0 (.c d0 .n)))⟩ ?_ rfl ?_;rotate_left
 ·rintro ρ h ⟨x3, I, rfl, hf, hl0, hs⟩;have H := HR0;try dsimp only at H
  refine k_fits _ hf ?_ rfl;refine st 2 [] (k_op (lG ((hs.bl d0).arrSeg hl0) ?_));refine k_op (sAN (l2 := x3) (hs.f d1) (List.length_replicate (n := 2) (a := (0 : Int))) hl0 ?_);intro h hs;obtain rfl := si H;exact st 2 [] (k_retQ ⟨[.agg (List.map (Value.int .u8) x3).toArray, .nilIface], (.cons (.agg (by kernel_rfl) (by kernel_rfl) (by kernel_rfl) ((hs.bl d0).arrSeg hl0)) (.cons (.tmp (by kernel_rfl)) .nil)), I, _, ⟨(.nilIface), rfl, rfl, hl0⟩, hs.pk (.f imEN .n)⟩)
 clear m0 H;rintro k' ρ h ⟨x1, x2, I, H, hf, hl1, hs⟩;cases k' with
 | zero => cases H
 | succ k =>
  rw [addr_Put.l1.m] at H;refine k_fits _ hf ?_ rfl;refine st 1 [] (k_jF H hs (fun x7 => [(4, pv b0), (6, pv b1), (40, .slice (sa b2) 2 2), (41, iv (2 : Int)), (42, iv x1), (43, .bool x7)]) ?_ ?_ ?_)
  ·intro j2 H;refine st 1 [] (k_ite H (fun c6 H => ?_) (fun c6 H => ?_))
   ·exact st 1 [] (k_end ⟨true, I, H, ft, hs⟩)
   exact st 1 [] (k_end ⟨false, I, H, ft, hs⟩)
  ·intro ρ h I H hs;refine st 2 [false] (k_out rfl ?_);obtain rfl := si H;exact xE ⟨x2, I, rfl, ft, hl1, hs.pk (.c d1 (.c d1 .n))⟩
  intro ρ h I H hs;obtain ⟨c0, H⟩ := guard_pos H;obtain ⟨c2, H⟩ := guard_pos H;refine st 8 [true] (k_val (elemPtr (sa b2) (x1.toNat * 1)) (pI (e := 3) (ik := .i64) (hs.sO d0) c0 c2) ?_);refine k_op (lC ((hs.sO d0).cell1 c0 c2) ?_);obtain ⟨hk, bk⟩ := hs.call tk0 .n;refine st 6 [] (k_call H (fun _ m => six_Put.calls m hk) ?_);rintro t0 _ h H ⟨I, _, ⟨v1, rfl, rfl⟩, hk⟩;replace hs := bk hk ct1 rfl;rcases (hs.er d0).cases with ⟨c1, rfl⟩ | ⟨c1, t1, u0, rfl⟩
  ·rw [if_pos c1] at H;obtain ⟨c3, H⟩ := guard_pos H;refine st 17 [false] (k_val (elemPtr (sa b1) (x1.toNat * 1)) (pr_indexArr (e := 5) (kk := .i64) (n := 2) (by kernel_rfl) (by kernel_rfl) (by kernel_rfl) (by kernel_rfl) c0 c3) ?_);refine k_op (sA (hs.f d2) t0.1 hl1 c0 c3 ?_);intro h hs;exact st 6 [] (k_endL ⟨k, Nat.lt_succ_self _, (w64 (x1 + 1)), (x2.set x1.toNat t0.1), I, H, ft, (len_set hl1), hs.pk (.c d2 (.c d0 (.c d1 .n)))⟩)
  rw [if_neg c1] at H;refine st 17 [true] (k_op (sAN (l2 := (List.replicate 2 (0 : Int))) (hs.f d3) (List.length_replicate (n := 2) (a := (0 : Int))) (List.length_replicate (n := 2) (a := (0 : Int))) ?_));intro h hs;refine st 2 [] (k_retQ (krL ?_));obtain rfl := si H;obtain rfl := Option.some.inj HR0;exact ⟨[.agg (List.map (Value.int .u8) (List.replicate 2 (0 : Int))).toArray, (.iface t1 u0)], (.cons (.agg (by kernel_rfl) (by kernel_rfl) (by kernel_rfl) ((hs.bl d0).arrSeg (List.length_replicate (n := 2) (a := (0 : Int))))) (.cons (.tmp (by kernel_rfl)) .nil)), I, _, ⟨((.iface t1 u0)), rfl, rfl, (List.length_replicate (n := 2) (a := (0 : Int)))⟩, hs.pk (.c d1 .n)⟩
def order_Put.m (K : Nat) (x0 : api_Order) (x1 : Int) : Option ((List Int) × GoErr) :=
  ((order_Right.m K x0 x1).bind fun t2 => (if t2 = GoErr.nil then (if x0.Kind = 1 then ((slices_Clone_bytes.m x0.Text).bind fun t4 => (some (t4, GoErr.nil))) else ((order_byteOf.m x0.Kind).bind fun t0 => (letJ (α := (List Int) → Option ((List Int) × GoErr)) (fun x2 => (if x0.Kind = 6 then ((app x2 [x0.Char]).bind fun l2 => (some (l2, GoErr.nil))) else (some (x2, GoErr.nil)))) fun j2 => (letJ (α := Bool → Option ((List Int) × GoErr)) (fun x3 => (bif x3 then ((attr_Put.m K x0.Attr).bind fun t3 => ((app [t0] [t3.1]).bind fun l0 => (some (l0, t3.2)))) else (letJ (α := Bool → Option ((List Int) × GoErr)) (fun x4 => (bif x4 then ((addr_Put.m K x0.Addr x1).bind fun t1 => (if t1.2 = GoErr.nil then ((app [t0] t1.1).bind fun l1 => (j2 l1)) else (some ([], t1.2)))) else (j2 [t0]))) fun j0 => (if x0.Kind = 3 then (j0 true) else (if x0.Kind = 6 then (j0 true) else (if x0.Kind = 7 then (j0 true) else (j0 false))))))) fun j1 => (if x0.Kind = 2 then (j1 true) else (j1 false)))))) else (some ([], t2))))
theorem order_Put.calls {B I : Gh} {h : Heap} {K : Nat} {x0 : api_Order} {x1 : Int} {a1 : Option Addr} {p1 : Nat} {n1 : Nat} {r : ((List Int) × GoErr)} (H : order_Put.m K x0 x1 = some r)  :
    Fc Tryz.prog 107 #[.agg (cl_api_Order x0 a1 n1 p1).toArray, iv x1] [rR (tInt .u8) .b a1 p1 n1 x0.Text] B I h (fun v L => ∃ a2 p2 n2 v0, v = .tuple #[.slice a2 n2 p2, v0] ∧ L = [rO (tInt .u8) .i a2 p2 n2 r.1, rE .i v0 r.2]) := by
 refine fc_of fun E hs => ?_;unfold order_Put.m at H;cases hs.nR d0;refine fn_of (rs := [.tmp 4, .tmp 5]) (N := 69) Tryz.func107 rfl rfl rfl rfl ?_;refine st 2 [] (k_op (nB hs (cl_api_Order x0 a1 x0.Text.length p1) ?_));intro b0 h hs;refine st 6 [] (k_op (lN (hs.bl d0) 0 8 ?_));obtain ⟨hk, bk⟩ := hs.call tk0 (.c (qB d1) .n);refine st 1 [] (k_call H (fun _ m => order_Right.calls m hk) ?_);rintro t6 v2 h H ⟨I, _, ⟨_, rfl, rfl⟩, hk⟩;replace hs := bk hk ct1 rfl;rcases (hs.er d0).cases with ⟨c0, rfl⟩ | ⟨c0, t2, u0, rfl⟩;rotate_left
 ·rw [if_neg c0] at H;obtain rfl := si H;exact st 14 [true] (k_retQ ⟨_, by kernel_rfl, I, _, ⟨none, 0, 0, ((.iface t2 u0)), rfl, rfl⟩, hs.pk (.f imON (.c d0 .n))⟩)
 rw [if_pos c0] at H;refine st 13 [false] (k_op (lB (hs.bl d1) 0 rfl ?_));refine k_ite H (fun c2 H => ?_) (fun c2 H => ?_)
 ·refine st 5 [true] (k_op (lB (hs.bl d1) 1 rfl ?_));obtain ⟨hk, bk⟩ := hs.call tk0 (.c (qB d2) .n);refine k_call H (fun _ m => slices_Clone_bytes.calls m hk) ?_;rintro t3 _ h H ⟨I, _, ⟨a3, p3, n3, rfl, rfl⟩, hk⟩;replace hs := bk hk ct1 rfl;cases hs.nO d0;obtain rfl := si H;exact st 3 [] (k_retQ ⟨_, by kernel_rfl, I, _, ⟨a3, p3, t3.length, (.nilIface), rfl, rfl⟩, hs.pk (.c d0 (.f imEN .n))⟩)
 refine st 6 [false] (k_op (lB (hs.bl d1) 0 rfl ?_));refine k_call H (fun _ m => order_byteOf.calls m) ?_;rintro t0 _ _ H ⟨rfl, rfl⟩;refine k_op (nS (e := 5) hs .i (tInt .u8) ([t0] : List Int) [.int .u8 t0] 1 (.int .u8 0) (Reps.int (I := (Cl.G .i E.B I)) (k := .u8) (l := [t0])) ?_);intro b1 h hs;refine st 3 [] ?_;obtain ⟨j0, e0, H⟩ := letJ_some H;refine k_joinT (fun T ρ h => ∃ (x2 : List Int), ∃ a0 p0 n0 I, j0 x2 = some r ∧ Fits [(2, pv b0), (7, .slice a0 n0 p0)] ρ ∧ St E (rO (tInt .u8) .i a0 p0 n0 x2 :: T) I h) hs tl1 ?_ ?_;rotate_left
 ·clear H;rintro ρ h ⟨x2, a0, p0, n0, I, H, hf, hs⟩;refine k_fits _ hf ?_ rfl;subst e0;try dsimp only at H
  cases hs.nO d0;refine st 4 [] (k_op (lB (hs.bl d2) 0 rfl ?_));refine k_ite H (fun c7 H => ?_) (fun c7 H => ?_);rotate_left
  ·obtain rfl := si H;exact st 9 [false] (k_retQ ⟨_, by kernel_rfl, I, _, ⟨a0, p0, x2.length, (.nilIface), rfl, rfl⟩, hs.pk (.c d0 (.f imEN .n))⟩)
  refine st 5 [true] (k_op (lB (hs.bl d2) 7 rfl ?_));refine k_op (nS (e := 5) hs .i (tInt .u8) ([x0.Char] : List Int) [.int .u8 x0.Char] 1 (.int .u8 0) (Reps.int (I := (Cl.G .i E.B I)) (k := .u8) (l := [x0.Char])) ?_);intro b4 h hs;replace hs := (hs.f d1);obtain ⟨l3, m2, H⟩ := bind_some H;refine k_op (aO (e := 5) (bytes := 1) hs (hs.sO d1) m2 ?_);intro a6 p6 h hs;obtain rfl := si H;exact st 8 [] (k_retQ ⟨_, by kernel_rfl, I, _, ⟨a6, p6, l3.length, (.nilIface), rfl, rfl⟩, hs.pk (.c d0 (.f imEN .n))⟩)
 refine st 3 [] (k_op (lB (hs.bl d2) 0 rfl ?_));refine st 3 [] (k_jT H hs (fun x3 => [(1, iv x1), (2, pv b0), (7, .slice (sa b1) 1 1), (29, iv x0.Kind), (30, .bool x3)]) ?_ ?_ ?_)
 ·intro j1 H;refine st 1 [] (k_ite H (fun c3 H => ?_) (fun c3 H => ?_))
  ·exact st 2 [] (k_end ⟨true, I, H, ft, hs⟩)
  exact st 2 [] (k_end ⟨false, I, H, ft, hs⟩)
 ·intro ρ h I H hs;refine st 4 [true] (k_op (lN (hs.bl d2) 2 4 ?_));obtain ⟨hk, bk⟩ := hs.call tk0 .n;refine k_call H (fun _ m => attr_Put.calls m hk) ?_;rintro t1 _ h H ⟨I, _, ⟨v1, rfl, rfl⟩, hk⟩;replace hs := bk hk ct1 rfl;refine st 10 [] (k_op (nS (e := 5) hs .i (tInt .u8) ([t1.1] : List Int) [.int .u8 t1.1] 1 (.int .u8 0) (Reps.int (I := (Cl.G .i E.B I)) (k := .u8) (l := [t1.1])) ?_));intro b2 h hs;replace hs := (hs.f d2);obtain ⟨l1, m0, H⟩ := bind_some H;refine k_op (aO (e := 5) (bytes := 1) hs (hs.sO d1) m0 ?_);intro a4 p4 h hs;obtain rfl := si H;exact st 4 [] (k_retQ (krJ ⟨_, by kernel_rfl, I, _, ⟨a4, p4, l1.length, (v1), rfl, rfl⟩, hs.pk (.c d0 (.c d1 .n))⟩))
 intro ρ h I H hs;refine st 2 [false] (k_jF H hs (fun x4 => [(1, iv x1), (2, pv b0), (7, .slice (sa b1) 1 1), (43, .bool x4)]) ?_ ?_ ?_)
 ·intro j2 H;refine st 2 [] (k_ite H (fun c4 H => ?_) (fun c4 H => ?_))
  ·exact st 4 [true] (k_end ⟨true, I, H, ft, hs⟩)
  refine st 5 [false] (k_ite H (fun c5 H => ?_) (fun c5 H => ?_))
  ·exact st 4 [true] (k_end ⟨true, I, H, ft, hs⟩)
  refine st 4 [false] (k_ite H (fun c6 H => ?_) (fun c6 H => ?_))
  ·exact st 2 [] (k_end ⟨true, I, H, ft, hs⟩)
  exact st 2 [] (k_end ⟨false, I, H, ft, hs⟩)
 ·intro ρ h I H hs;exact st 3 [false] (k_end ⟨[t0], (sa b1), 1, 1, I, H, ft, hs.pk (.c d0 pk0)⟩)
 intro ρ h I H hs;refine st 4 [true] (k_op (lB (hs.bl d2) 6 rfl ?_));obtain ⟨hk, bk⟩ := hs.call tk0 .n;refine st 1 [] (k_call H (fun _ m => addr_Put.calls m hk) ?_);rintro t4 _ h H ⟨I, _, ⟨v3, rfl, rfl, hl0⟩, hk⟩;replace hs := bk hk ct1 rfl;refine st 3 [] (k_op (nA hs (List.map (Value.int .u8) (List.replicate 2 (0 : Int))) (.agg (List.map (Value.int .u8) (List.replicate 2 (0 : Int))).toArray) ?_));intro b3 h hs;refine k_op (sAN (l2 := t4.1) hs (List.length_replicate (n := 2) (a := (0 : Int))) hl0 ?_);intro h hs;rcases (hs.er d1).cases with ⟨c1, rfl⟩ | ⟨c1, t5, u1, rfl⟩
 ·rw [if_pos c1] at H;obtain ⟨I, hs⟩ := hs.fA hl0;replace hs := (hs.f d2);obtain ⟨l0, m1, H⟩ := bind_some H;refine st 13 [false] (k_op (aO (e := 5) (bytes := 1) hs (hs.sR d1) m1 ?_));intro a5 p5 h hs;exact st 3 [] (k_end ⟨l0, a5, p5, l0.length, I, H, ft, hs.pk (.c d0 pk2)⟩)
 rw [if_neg c1] at H;obtain rfl := si H;exact st 15 [true] (k_retQ (krJ ⟨_, by kernel_rfl, I, _, ⟨none, 0, 0, ((.iface t5 u1)), rfl, rfl⟩, hs.pk (.f imON (.c d1 .n))⟩))
def stream_spot.m (x0 : Int) (x1 : GoErr) : Option GoErr :=
  (some (GoErr.spot x0 x1))
theorem stream_spot.calls {B I : Gh} {h : Heap} {x0 : Int} {x1 : GoErr} {v0 : Value} {r : GoErr} (H : stream_spot.m x0 x1 = some r)  :
    Fc Tryz.prog 54 #[iv x0, v0] [rE .i v0 x1] B I h (fun v L => ∃ v1, v = v1 ∧ L = [rE .i v1 r]) := by
 refine fc_of fun E hs => ?_;unfold stream_spot.m at H;refine fn_of (rs := [.tmp 4]) (N := 10) Tryz.func54 rfl rfl rfl rfl ?_;rcases (hs.er d0).cases with ⟨c0, rfl⟩ | ⟨c0, t0, u0, rfl⟩
 ·refine st 9 [] (k_op (nB hs [iv x0, .nilIface] ?_));intro b0 h hs;have q0 := (hs.er d1);obtain ⟨I, hs⟩ := hs.fS q0;obtain rfl := si H;exact st 3 [] (k_retQ ⟨_, by kernel_rfl, I, _, ⟨((.iface 202 (pv b0))), rfl, rfl⟩, hs.pk (.c d0 .n)⟩)
 refine st 9 [] (k_op (nB hs [iv x0, (.iface t0 u0)] ?_));intro b0 h hs;have q0 := (hs.er d1);obtain ⟨I, hs⟩ := hs.fS q0;obtain rfl := si H;exact st 3 [] (k_retQ ⟨_, by kernel_rfl, I, _, ⟨((.iface 202 (pv b0))), rfl, rfl⟩, hs.pk (.c d0 .n)⟩)
def stream_orders.l1.m (K : Nat) (x1 : (List api_Order)) (x2 : Int) : Nat → (List Int) → Int → Option (((List Int) × GoErr) ⊕ ((List Int)))
  | 0, _, _ => none
  | k + 1, x3, x0 => (letJ (α := Bool → Option (((List Int) × GoErr) ⊕ ((List Int)))) (fun x5 => (bif x5 then (if 0 ≤ x0 then (if x0 < (x1.length : Int) then ((order_Put.m K (⟨(at_ x1 x0).Kind, (at_ x1 x0).Text, ((at_ x1 x0).Attr), (at_ x1 x0).Addr, (at_ x1 x0).Char⟩ : api_Order) x2).bind fun t0 => (letJ (α := GoErr → Option (((List Int) × GoErr) ⊕ ((List Int)))) (fun x4 => (if x4 = GoErr.nil then ((app x3 t0.1).bind fun l0 => (stream_orders.l1.m K x1 x2 k l0 (w64 (x0 + 1)))) else ((stream_spot.m x0 x4).bind fun t1 => (some (Sum.inl ([], t1)))))) fun j0 => (if t0.2 = GoErr.nil then (if x0 > 0 then (if (at_ x1 x0).Kind = 1 then (if 0 ≤ (w64 (x0 - 1)) then (if (w64 (x0 - 1)) < (x1.length : Int) then (if (at_ x1 (w64 (x0 - 1))).Kind = 1 then (j0 (GoErr.no 1)) else (j0 t0.2)) else none) else none) else (j0 t0.2)) else (j0 t0.2)) else (j0 t0.2)))) else none) else none) else (some (Sum.inr x3)))) fun j1 => (if x0 < (x1.length : Int) then (j1 true) else (j1 false)))
def stream_orders.m (K : Nat) (x0 : (List api_Order)) (x1 : Int) : Option ((List Int) × GoErr) :=
  ((stream_orders.l1.m K x0 x1 K [] 0).bind fun s0 => match s0 with | .inl q => (some q) | .inr x2 => (some (x2, GoErr.nil)))
theorem stream_orders.calls {B I : Gh} {h : Heap} {K : Nat} {x0 : (List api_Order)} {x3 : Int} {a0 : Option Addr} {p0 : Nat} {n2 : Nat} {r : ((List Int) × GoErr)} (H : stream_orders.m K x0 x3 = some r)  :
    Fc Tryz.prog 52 #[.slice a0 n2 p0, iv x3] [rR t_api_Order .b a0 p0 n2 x0] B I h (fun v L => ∃ a4 p4 n3 v1, v = .tuple #[.slice a4 n3 p4, v1] ∧ L = [rO (tInt .u8) .i a4 p4 n3 r.1, rE .i v1 r.2]) := by
 refine fc_of fun E hs => ?_;unfold stream_orders.m at H;cases hs.nR d0;refine fn_of (rs := [.tmp 4, .tmp 5]) (N := 55) Tryz.func52 rfl rfl rfl rfl ?_;refine st 17 [] ?_;obtain ⟨s0, m0, HR0⟩ := bind_some H;refine k_loop 0 (fun k' ρ h => ∃ (x2 : List Int) (x1 : Int), ∃ a1 p1 n0 I, stream_orders.l1.m K x0 x3 k' x2 x1 = some s0 ∧ Fits [(0, .slice a0 x0.length p0), (1, iv x3), (6, .slice a1 n0 p1), (11, .slice a0 x0.length p0), (12, iv (x0.length : Int)), (13, iv x1)] ρ ∧ St E [rO (tInt .u8) .i a1 p1 n0 x2, rR t_api_Order .b a0 p0 x0.length x0] I h) (fun ρ h => ∃ (x4 : List Int), ∃ a2 p2 n1 I, Sum.inr x4 = s0 ∧ Fits [(6, .slice a2 n1 p2)] ρ ∧ St E [rO (tInt .u8) .i a2 p2 n1 x4, rR t_api_Order .b a0 p0 x0.length x0] I h) K ⟨[], 0, none, 0, 0, I, m0, ft, hs.pk (.f imON (.c d0 .n))⟩ ?_ rfl ?_;rotate_left
 ·rintro ρ h ⟨x4, a2, p2, n1, I, rfl, hf, hs⟩;have H := HR0;try dsimp only at H
  refine k_fits _ hf ?_ rfl;cases hs.nO d0;obtain rfl := si H;exact st 6 [] (k_retQ ⟨_, by kernel_rfl, I, _, ⟨a2, p2, x4.length, (.nilIface), rfl, rfl⟩, hs.pk (.c d0 (.f imEN .n))⟩)
 clear m0 H;rintro k' ρ h ⟨x2, x1, a1, p1, n0, I, H, hf, hs⟩;cases k' with
 | zero => cases H
 | succ k =>
  rw [stream_orders.l1.m] at H;refine k_fits _ hf ?_ rfl;cases hs.nO d0;refine st 1 [] (k_jF H hs (fun x6 => [(0, .slice a0 x0.length p0), (1, iv x3), (6, .slice a1 x2.length p1), (11, .slice a0 x0.length p0), (12, iv (x0.length : Int)), (13, iv x1), (14, .bool x6)]) ?_ ?_ ?_)
  ·intro j1 H;refine st 1 [] (k_ite H (fun c6 H => ?_) (fun c6 H => ?_))
   ·exact st 1 [] (k_end ⟨true, I, H, ft, hs⟩)
   exact st 1 [] (k_end ⟨false, I, H, ft, hs⟩)
  ·intro ρ h I H hs;refine st 2 [false] (k_out rfl ?_);obtain rfl := si H;exact xE ⟨x2, a1, p1, x2.length, I, rfl, ft, hs.pk (.c d0 (.c d0 .n))⟩
  intro ρ h I H hs;obtain ⟨c4, H⟩ := guard_pos H;obtain ⟨c5, H⟩ := guard_pos H;refine st 8 [true] (k_val (elemPtr a0 (x1.toNat * 8)) (pI (e := 133) (ik := .i64) (hs.sR d1) c4 c5) ?_);obtain ⟨y0, g0, q2⟩ := (hs.sR d1).toSl.seg c4 c5;obtain ⟨a5, p5, n4, rfl, q0⟩ := t_api_Order.open_ q2;obtain rfl := q0.2;replace hs := hs.pR q0;refine k_op (lG g0 ?_);refine k_op (nA hs [iv 0, .slice none 0 0, .bool false, .bool false, iv 0, .bool false, iv 0, .int .u8 0] (.agg #[iv 0, .slice none 0 0, .bool false, .bool false, iv 0, .bool false, iv 0, .int .u8 0]) ?_);intro b0 h hs;refine st 1 [] (k_op (sN0 hs [iv ((at_ x0 x1).Kind), .slice a5 (((at_ x0 x1).Text).length) p5, .bool (((at_ x0 x1).Attr).Protected), .bool (((at_ x0 x1).Attr).Numeric), iv (((at_ x0 x1).Attr).Show), .bool (((at_ x0 x1).Attr).Modified), iv ((at_ x0 x1).Addr), .int .u8 ((at_ x0 x1).Char)] (ones_of rfl) ?_));intro h hs;refine st 3 [] (k_op (lN (hs.bl d0) 0 8 ?_));obtain ⟨hk, bk⟩ := hs.call tk0 (.c (qB d1) .n);refine st 1 [] (k_call H (fun _ m => order_Put.calls m hk) ?_);rintro t0 _ h H ⟨I, _, ⟨a3, p3, n5, v3, rfl, rfl⟩, hk⟩;replace hs := bk hk ct2 rfl;cases hs.nO d0;refine st 7 [] ?_;obtain ⟨j0, e0, H⟩ := letJ_some H;refine k_joinT (fun T ρ h => ∃ (x5 : GoErr), ∃ v0 I, j0 x5 = some s0 ∧ Fits [(0, .slice a0 x0.length p0), (1, iv x3), (6, .slice a1 x2.length p1), (7, iv x1), (9, .slice a3 t0.1.length p3), (10, v0), (11, .slice a0 x0.length p0), (12, iv (x0.length : Int)), (13, iv x1)] ρ ∧ St E (rO (tInt .u8) .i a3 p3 t0.1.length t0.1 :: rE .i v0 x5 :: T) I h) hs tl2 ?_ ?_;rotate_left
  ·clear H;rintro ρ h ⟨x5, v0, I, H, hf, hs⟩;refine k_fits _ hf ?_ rfl;subst e0;try dsimp only at H
   rcases (hs.er d1).cases with ⟨c3, rfl⟩ | ⟨c3, t2, u1, rfl⟩
   ·rw [if_pos c3] at H;replace hs := (hs.f d4);obtain ⟨l0, m1, H⟩ := bind_some H;refine st 11 [false] (k_op (aO (e := 5) (bytes := 1) hs (hs.sO d1) m1 ?_));intro a6 p6 h hs;exact st 7 [] (k_endL ⟨k, Nat.lt_succ_self _, l0, (w64 (x1 + 1)), a6, p6, l0.length, I, H, ft, hs.pk (.c d0 (.c d4 .n))⟩)
   rw [if_neg c3] at H;obtain ⟨hk, bk⟩ := hs.call tk0 (.c (xK d1) .n);refine st 11 [true] (k_call H (fun _ m => stream_spot.calls m hk) ?_);rintro t3 v2 h H ⟨I, _, ⟨_, rfl, rfl⟩, hk⟩;replace hs := bk hk ct1 rfl;refine st 3 [] (k_retQ (krL ?_));obtain rfl := si H;obtain rfl := Option.some.inj HR0;exact ⟨_, by kernel_rfl, I, _, ⟨none, 0, 0, (v2), rfl, rfl⟩, hs.pk (.f imON (.c d0 .n))⟩
  rcases (hs.er d1).cases with ⟨c0, rfl⟩ | ⟨c0, t1, u0, rfl⟩;rotate_left
  ·rw [if_neg c0] at H;exact st 25 [false] (k_end ⟨t0.2, (.iface t1 u0), I, H, ft, hs.pk (.c d0 (.c d0 pk0))⟩)
  rw [if_pos c0] at H;refine st 6 [] (k_ite H (fun c7 H => ?_) (fun c7 H => ?_));rotate_left
  ·exact st 18 [false] (k_end ⟨t0.2, .nilIface, I, H, ft, hs.pk (.c d0 (.c d0 pk0))⟩)
  refine st 3 [] (k_op (lB (hs.bl d2) 0 rfl ?_));refine k_ite H (fun c8 H => ?_) (fun c8 H => ?_);rotate_left
  ·exact st 13 [false] (k_end ⟨t0.2, .nilIface, I, H, ft, hs.pk (.c d0 (.c d0 pk0))⟩)
  obtain ⟨c1, H⟩ := guard_pos H;obtain ⟨c2, H⟩ := guard_pos H;refine st 5 [] (k_val (elemPtr a0 ((w64 (x1 - 1)).toNat * 8)) (pI (e := 133) (ik := .i64) (hs.sR d5) c1 c2) ?_);refine k_val (elemPtr a0 ((w64 (x1 - 1)).toNat * 8 + 0)) (pF (off := 0) (hs.sR d5) c1 c2) ?_;obtain ⟨y1, g1, q3⟩ := (hs.sR d5).toSl.seg c1 c2;obtain ⟨a7, p7, n6, rfl, q1⟩ := t_api_Order.open_ q3;obtain rfl := q1.2;replace hs := hs.pR q1;refine k_op (lC (seg_cell (f := 0) g1 rfl) ?_);refine k_ite H (fun c9 H => ?_) (fun c9 H => ?_)
  ·exact st 7 [true] (k_end ⟨(GoErr.no 1), .iface 137 (iv 1), I, H, ft, hs.pk (.c d1 (.f imEC pk2))⟩)
  exact st 4 [false] (k_end ⟨t0.2, .nilIface, I, H, ft, hs.pk (.c d1 (.c d1 pk1))⟩)
def attr_PutWcc.m (K : Nat) (x0 : api_Wcc) : Option Int :=
  ((attr_bit.m x0.Alarm 4).bind fun t0 => ((attr_bit.m x0.Unlock 2).bind fun t1 => ((attr_bit.m x0.Reset 1).bind fun t2 => ((attr_sum.m K [t0, t1, t2]).bind fun t3 => ((six_Put.m t3).bind fun t4 => (some t4.1))))))
theorem attr_PutWcc.calls {B I : Gh} {h : Heap} {K : Nat} {x0 : api_Wcc} {r : Int} (H : attr_PutWcc.m K x0 = some r)  :
    Fc Tryz.prog 53 #[.agg #[.bool x0.Alarm, .bool x0.Unlock, .bool x0.Reset]] [] B I h (fun v L => v = .int .u8 r ∧ L = []) := by
 refine fc_of fun E hs => ?_;unfold attr_PutWcc.m at H;refine fn_of (rs := [.tmp 2]) (N := 21) Tryz.func53 rfl rfl rfl rfl ?_;refine st 2 [] (k_op (nB hs [.bool x0.Alarm, .bool x0.Unlock, .bool x0.Reset] ?_));intro b0 h hs;refine st 3 [] ?_;obtain ⟨hs0, bk0⟩ := hs.call tk0 (.c (qL d0) .n);have hs := hs0;refine k_regD hs0 17 ?_;refine aRun [0] 16 hs.keep ?_;refine aL 1 rfl hs.keep (ll hs0 d0 (n := 0) rfl) (nmL hs0 d0) ?_;refine aRun [3] 14 hs.keep ?_;refine aL 4 rfl hs.keep (ll hs0 d0 (n := 1) rfl) (nmL hs0 d0) ?_;refine aRun [6] 12 hs.keep ?_;refine aL 7 rfl hs.keep (ll hs0 d0 (n := 2) rfl) (nmL hs0 d0) ?_;obtain ⟨hk, bk⟩ := hs.call tk0 .n;refine aO1 2 rfl (o_call H (fun _ m => attr_bit.calls m hk) ?_);rintro t0 _ h H ⟨I, _, ⟨rfl, rfl⟩, hk⟩;replace hs := bk hk ct0 rfl;refine ⟨hs.keep, ?_⟩;obtain ⟨hk, bk⟩ := hs.call tk0 .n;refine aO1 5 rfl (o_call H (fun _ m => attr_bit.calls m hk) ?_);rintro t1 _ h H ⟨I, _, ⟨rfl, rfl⟩, hk⟩;replace hs := bk hk ct0 rfl;refine ⟨hs.keep, ?_⟩;obtain ⟨hk, bk⟩ := hs.call tk0 .n;refine aO1 8 rfl (o_call H (fun _ m => attr_bit.calls m hk) ?_);rintro t2 _ h H ⟨I, _, ⟨rfl, rfl⟩, hk⟩;replace hs := bk hk ct0 rfl;refine ⟨hs.keep, ?_⟩;refine aO1 9 rfl (nS (e := 200) hs .i t_Anon_is_n ([t0, t1, t2] : List Anon_is_n) [.bool t0.is', iv t0.n', .bool t1.is', iv t1.n', .bool t2.is', iv t2.n'] 2 (.agg #[.bool false, iv 0]) (Reps.cons (T := t_Anon_is_n) (c := [.bool t0.is', iv t0.n']) (x := t0) rfl (Reps.cons (T := t_Anon_is_n) (c := [.bool t1.is', iv t1.n']) (x := t1) rfl (Reps.cons (T := t_Anon_is_n) (c := [.bool t2.is', iv t2.n']) (x := t2) rfl (.nil : Reps t_Anon_is_n (Cl.G .i E.B I) h [] [])))) ?_);intro b1 h hs;refine ⟨hs.keep, ?_⟩;obtain ⟨hk, bk⟩ := hs.call tk0 (.c (qO d0) .n);refine aO1 10 rfl (o_call H (fun _ m => attr_sum.calls m hk) ?_);rintro t3 _ h H ⟨I, _, ⟨rfl, rfl⟩, hk⟩;replace hs := bk hk ct0 rfl;refine ⟨hs.keep, ?_⟩;obtain ⟨hk, bk⟩ := hs.call tk0 .n;refine aO1 11 rfl (o_call H (fun _ m => six_Put.calls m hk) ?_);rintro t4 _ h H ⟨I, _, ⟨v0, rfl, rfl⟩, hk⟩;replace hs := bk hk ct1 rfl;refine ⟨hs.keep, ?_⟩;refine aRun [12, 13, 14, 15, 16] 0 hs.keep ?_;replace hs := hs.pk (.c d0 (.c d0 .n));replace hs := bk0 hs ct2 rfl;refine aEnd ?_;obtain rfl := si H;exact st 5 [] (k_retQ ⟨_, by kernel_rfl, I, _, ⟨rfl, rfl⟩, hs.pk .n⟩)
def stream_Write.m (K : Nat) (x0 : api_Out) (x1 : Int) : Option ((List Int) × GoErr) :=
  ((stream_known.m x0.Cmd).bind fun t1 => bif t1 then (letJ (α := Bool → Option ((List Int) × GoErr)) (fun x2 => (bif x2 then (bif ((x0.Wcc.Alarm == false) && ((x0.Wcc.Unlock == false) && ((x0.Wcc.Reset == false) && true))) then (if (x0.Orders.length : Int) > 0 then (some ([], (GoErr.no 1))) else (some ([(IntKind.u8.wrap (x0.Cmd))], GoErr.nil))) else (some ([], (GoErr.no 1)))) else ((stream_orders.m K x0.Orders x1).bind fun t0 => (if t0.2 = GoErr.nil then ((attr_PutWcc.m K x0.Wcc).bind fun t3 => ((app [(IntKind.u8.wrap (x0.Cmd))] [t3]).bind fun l1 => ((app l1 t0.1).bind fun l0 => (if (l0.length : Int) > 8192 then (some ([], (GoErr.no 6))) else (some (l0, GoErr.nil)))))) else (some ([], t0.2)))))) fun j0 => ((stream_Writes.m x0.Cmd).bind fun t2 => bif t2 then (j0 false) else (j0 true))) else (some ([], (GoErr.no 5))))
theorem stream_Write.calls {B I : Gh} {h : Heap} {K : Nat} {x0 : api_Out} {x1 : Int} {a0 : Option Addr} {p0 : Nat} {n0 : Nat} {r : ((List Int) × GoErr)} (H : stream_Write.m K x0 x1 = some r)  :
    Fc Tryz.prog 14 #[.agg (cl_api_Out x0 a0 n0 p0).toArray, iv x1] [rR t_api_Order .b a0 p0 n0 x0.Orders] B I h (fun v L => ∃ a1 p1 n1 v0, v = .tuple #[.slice a1 n1 p1, v0] ∧ L = [rO (tInt .u8) .i a1 p1 n1 r.1, rE .i v0 r.2]) := by
 refine fc_of fun E hs => ?_;unfold stream_Write.m at H;cases hs.nR d0;refine fn_of (rs := [.tmp 4, .tmp 5]) (N := 57) Tryz.func14 rfl rfl rfl rfl ?_;refine st 2 [] (k_op (nB hs (cl_api_Out x0 a0 x0.Orders.length p0) ?_));intro b1 h hs;refine st 7 [] (k_op (lB (hs.bl d0) 0 rfl ?_));refine k_call H (fun _ m => stream_known.calls m) ?_;rintro t1 _ _ H ⟨rfl, rfl⟩;cases t1
 ·rw [cond_false] at H;obtain rfl := si H;exact st 9 [true] (k_retQ ⟨_, by kernel_rfl, I, _, ⟨none, 0, 0, (.iface 137 (iv 5)), rfl, rfl⟩, hs.pk (.f imON (.f imEC .n))⟩)
 rw [cond_true] at H;refine st 7 [false] (k_op (lB (hs.bl d0) 0 rfl ?_));refine st 1 [] (k_op (nS (e := 5) hs .i (tInt .u8) ([(IntKind.u8.wrap (x0.Cmd))] : List Int) [.int .u8 (IntKind.u8.wrap (x0.Cmd))] 1 (.int .u8 0) (Reps.int (I := (Cl.G .i E.B I)) (k := .u8) (l := [(IntKind.u8.wrap (x0.Cmd))])) ?_));intro b0 h hs;refine st 4 [] (k_jT H hs (fun x2 => [(1, iv x1), (2, pv b1), (6, .slice (sa b0) 1 1), (21, .bool x2)]) ?_ ?_ ?_)
 ·intro j0 H;refine st 2 [] (k_op (lB (hs.bl d1) 0 rfl ?_));refine k_call H (fun _ m => stream_Writes.calls m) ?_;rintro t2 _ _ H ⟨rfl, rfl⟩;cases t2
  ·rw [cond_false] at H;exact st 2 [] (k_end ⟨true, I, H, ft, hs⟩)
  rw [cond_true] at H;exact st 2 [] (k_end ⟨false, I, H, ft, hs⟩)
 ·intro ρ h I H hs;refine st 5 [true] (k_op (lN (hs.bl d1) 1 3 ?_));rcases bool_or ((x0.Wcc.Alarm == false) && ((x0.Wcc.Unlock == false) && ((x0.Wcc.Reset == false) && true))) with c0 | c0
  ·replace H := bif_f c0 H;refine st 1 [] (k_op (owp_run (.bool true) (run_bool (run_neAgg (xs := #[.bool x0.Wcc.Alarm, .bool x0.Wcc.Unlock, .bool x0.Wcc.Reset]) (ys := #[.bool false, .bool false, .bool false]) (by kernel_rfl) (by kernel_rfl) (by kernel_rfl) (eqB_run (b := ((x0.Wcc.Alarm == false) && ((x0.Wcc.Unlock == false) && ((x0.Wcc.Reset == false) && true)))) (by kernel_rfl))) (notB c0)) ?_));obtain rfl := si H;exact st 14 [true] (k_retQ ⟨_, by kernel_rfl, I, _, ⟨none, 0, 0, (.iface 137 (iv 1)), rfl, rfl⟩, hs.pk (.f imON (.f imEC .n))⟩)
  replace H := bif_t c0 H;refine st 1 [] (k_op (owp_run (.bool false) (run_bool (run_neAgg (xs := #[.bool x0.Wcc.Alarm, .bool x0.Wcc.Unlock, .bool x0.Wcc.Reset]) (ys := #[.bool false, .bool false, .bool false]) (by kernel_rfl) (by kernel_rfl) (by kernel_rfl) (eqB_run (b := ((x0.Wcc.Alarm == false) && ((x0.Wcc.Unlock == false) && ((x0.Wcc.Reset == false) && true)))) (by kernel_rfl))) (notB c0)) ?_));refine st 2 [] (k_op (lB (hs.bl d1) 4 rfl ?_));refine st 1 [] (k_ite H (fun c2 H => ?_) (fun c2 H => ?_))
  ·obtain rfl := si H;exact st 9 [true] (k_retQ ⟨_, by kernel_rfl, I, _, ⟨none, 0, 0, (.iface 137 (iv 1)), rfl, rfl⟩, hs.pk (.f imON (.f imEC .n))⟩)
  obtain rfl := si H;exact st 10 [false] (k_retQ ⟨_, by kernel_rfl, I, _, ⟨(sa b0), 1, 1, (.nilIface), rfl, rfl⟩, hs.pk (.c d0 (.f imEN .n))⟩)
 intro ρ h I H hs;refine st 5 [false] (k_op (lB (hs.bl d1) 4 rfl ?_));obtain ⟨hk, bk⟩ := hs.call tk0 (.c (qB d2) .n);refine st 1 [] (k_call H (fun _ m => stream_orders.calls m hk) ?_);rintro t4 _ h H ⟨I, _, ⟨a3, p3, n2, v1, rfl, rfl⟩, hk⟩;replace hs := bk hk ct2 rfl;cases hs.nO d0;rcases (hs.er d1).cases with ⟨c1, rfl⟩ | ⟨c1, t3, u0, rfl⟩;rotate_left
 ·rw [if_neg c1] at H;obtain rfl := si H;exact st 19 [true] (k_retQ ⟨_, by kernel_rfl, I, _, ⟨none, 0, 0, ((.iface t3 u0)), rfl, rfl⟩, hs.pk (.f imON (.c d1 .n))⟩)
 rw [if_pos c1] at H;refine st 19 [false] (k_op (lN (hs.bl d3) 1 3 ?_));obtain ⟨hk, bk⟩ := hs.call tk0 .n;refine k_call H (fun _ m => attr_PutWcc.calls m hk) ?_;rintro t0 _ h H ⟨I, _, ⟨rfl, rfl⟩, hk⟩;replace hs := bk hk ct0 rfl;refine k_op (nS (e := 5) hs .i (tInt .u8) ([t0] : List Int) [.int .u8 t0] 1 (.int .u8 0) (Reps.int (I := (Cl.G .i E.B I)) (k := .u8) (l := [t0])) ?_);intro b2 h hs;replace hs := (hs.f d3);obtain ⟨l1, m0, H⟩ := bind_some H;refine k_op (aO (e := 5) (bytes := 1) hs (hs.sO d1) m0 ?_);intro a4 p4 h hs;obtain ⟨l0, m1, H⟩ := bind_some H;refine st 1 [] (k_op (aO (e := 5) (bytes := 1) hs (hs.sO d2) m1 ?_));intro a2 p2 h hs;refine st 6 [] (k_ite H (fun c3 H => ?_) (fun c3 H => ?_))
 ·obtain rfl := si H;exact st 8 [true] (k_retQ ⟨_, by kernel_rfl, I, _, ⟨none, 0, 0, (.iface 137 (iv 6)), rfl, rfl⟩, hs.pk (.f imON (.f imEC .n))⟩)
 obtain rfl := si H;exact st 9 [false] (k_retQ ⟨_, by kernel_rfl, I, _, ⟨a2, p2, l0.length, (.nilIface), rfl, rfl⟩, hs.pk (.c d0 (.f imEN .n))⟩)
def input_spot.m (x0 : Int) (x1 : GoErr) : Option GoErr :=
  (some (GoErr.spot x0 x1))
theorem input_spot.calls {B I : Gh} {h : Heap} {x0 : Int} {x1 : GoErr} {v0 : Value} {r : GoErr} (H : input_spot.m x0 x1 = some r)  :
    Fc Tryz.prog 67 #[iv x0, v0] [rE .i v0 x1] B I h (fun v L => ∃ v1, v = v1 ∧ L = [rE .i v1 r]) := by
 refine fc_of fun E hs => ?_;unfold input_spot.m at H;refine fn_of (rs := [.tmp 4]) (N := 10) Tryz.func67 rfl rfl rfl rfl ?_;rcases (hs.er d0).cases with ⟨c0, rfl⟩ | ⟨c0, t0, u0, rfl⟩
 ·refine st 9 [] (k_op (nB hs [iv x0, .nilIface] ?_));intro b0 h hs;have q0 := (hs.er d1);obtain ⟨I, hs⟩ := hs.fS q0;obtain rfl := si H;exact st 3 [] (k_retQ ⟨_, by kernel_rfl, I, _, ⟨((.iface 202 (pv b0))), rfl, rfl⟩, hs.pk (.c d0 .n)⟩)
 refine st 9 [] (k_op (nB hs [iv x0, (.iface t0 u0)] ?_));intro b0 h hs;have q0 := (hs.er d1);obtain ⟨I, hs⟩ := hs.fS q0;obtain rfl := si H;exact st 3 [] (k_retQ ⟨_, by kernel_rfl, I, _, ⟨((.iface 202 (pv b0))), rfl, rfl⟩, hs.pk (.c d0 .n)⟩)
def input_letter.m (x0 : Int) : Option Bool :=
  (if x0 = 0 then (some false) else ((attr_Char.m x0).bind fun t0 => (some t0)))
theorem input_letter.calls {x0 : Int} {h : Heap} {r : Bool} (H : input_letter.m x0 = some r)   :
    Ret Tryz.prog 122 #[.int .u8 x0] h (fun v h' => .bool r = v ∧ h' = h) := by
 unfold input_letter.m at H;refine fn_of (rs := [.tmp 2]) (N := 9) Tryz.func122 rfl rfl rfl rfl ?_;refine st 7 [] (k_iteN H (fun c0 H => ?_) (fun c0 H => ?_))
 ·obtain rfl := si H;exact st 6 [] (k_retQ ⟨_, by kernel_rfl, rfl, rfl⟩)
 refine st 2 [] (k_call H (fun _ m => attr_Char.calls m) ?_);rintro t0 _ _ H ⟨rfl, rfl⟩;obtain rfl := si H;exact st 3 [] (k_retQ ⟨_, by kernel_rfl, rfl, rfl⟩)
def input_strange.m (x0 : Int) : Option Bool :=
  ((input_letter.m x0).bind fun t0 => (some (!t0)))
theorem input_strange.calls {x0 : Int} {h : Heap} {r : Bool} (H : input_strange.m x0 = some r)   :
    Ret Tryz.prog 177 #[.int .u8 x0] h (fun v h' => .bool r = v ∧ h' = h) := by
 unfold input_strange.m at H;refine fn_of (rs := [.tmp 2]) (N := 6) Tryz.func177 rfl rfl rfl rfl ?_;refine st 7 [] (k_call H (fun _ m => input_letter.calls m) ?_);rintro t0 _ _ H ⟨rfl, rfl⟩;obtain rfl := si H;exact st 3 [] (k_retQ ⟨_, by kernel_rfl, rfl, rfl⟩)
def slices_IndexFunc_bytes__input_strange.l1.m (K : Nat) (x1 : (List Int)) : Nat → Int → Option (Int ⊕ (Unit))
  | 0, _ => none
  | k + 1, x0 => (letJ (α := Bool → Option (Int ⊕ (Unit))) (fun x2 => (bif x2 then (if 0 ≤ x0 then (if x0 < (x1.length : Int) then ((input_strange.m (at_ x1 x0)).bind fun t0 => bif t0 then (some (Sum.inl x0)) else (slices_IndexFunc_bytes__input_strange.l1.m K x1 k (w64 (x0 + 1)))) else none) else none) else (some (Sum.inr ())))) fun j0 => (if x0 < (x1.length : Int) then (j0 true) else (j0 false)))
def slices_IndexFunc_bytes__input_strange.m (K : Nat) (x0 : (List Int)) : Option Int :=
  ((slices_IndexFunc_bytes__input_strange.l1.m K x0 K 0).bind fun s0 => match s0 with | .inl q => (some q) | .inr _ => (some (-1)))
theorem slices_IndexFunc_bytes__input_strange.calls {G : Gh} {K : Nat} {x0 : (List Int)} {a0 : Option Addr} {p0 : Nat} {n0 : Nat} {h : Heap} {r : Int} (H : slices_IndexFunc_bytes__input_strange.m K x0 = some r)  (s0 : Sn (tInt .u8) G h a0 p0 n0 x0) :
    Ret Tryz.prog 172 #[.slice a0 n0 p0, .func (.func 177) #[] #[]] h (fun v h' => iv r = v ∧ h' = h) := by
 unfold slices_IndexFunc_bytes__input_strange.m at H;obtain rfl := s0.len.symm;refine fn_of (rs := [.tmp 4]) (N := 19) Tryz.func172 rfl rfl rfl rfl ?_;refine st 12 [] ?_;obtain ⟨s1, m0, HR0⟩ := bind_some H;refine k_loop 0 (fun k' ρ h0 => ∃ (x1 : Int), slices_IndexFunc_bytes__input_strange.l1.m K x0 k' x1 = some s1 ∧ Fits [(0, .slice a0 x0.length p0), (1, .func (.func 177) #[] #[]), (7, iv (x0.length : Int)), (8, iv x1)] ρ ∧ h = h0) (fun ρ h0 => Sum.inr () = s1 ∧ Fits [] ρ ∧ h = h0) K ⟨0, m0, ft, rfl⟩ ?_ rfl ?_;rotate_left
 ·rintro ρ h0 ⟨rfl, hf, rfl⟩;have H := HR0;try dsimp only at H
  refine k_fits _ hf ?_ rfl;obtain rfl := si H;exact st 4 [] (k_retQ ⟨_, by kernel_rfl, rfl, rfl⟩)
 clear m0 H;rintro k' ρ h0 ⟨x1, H, hf, rfl⟩;cases k' with
 | zero => cases H
 | succ k =>
  rw [slices_IndexFunc_bytes__input_strange.l1.m] at H;refine k_fits _ hf ?_ rfl;refine st 1 [] ?_;obtain ⟨j0, e0, H⟩ := letJ_some H;refine k_join (fun ρ h0 => ∃ (x2 : Bool), j0 x2 = some s1 ∧ Fits [(0, .slice a0 x0.length p0), (1, .func (.func 177) #[] #[]), (7, iv (x0.length : Int)), (8, iv x1), (9, .bool x2)] ρ ∧ h = h0) ?_ ?_
  ·refine st 1 [] (k_ite H (fun c2 H => ?_) (fun c2 H => ?_))
   ·exact st 1 [] (k_end ⟨true, H, ft, rfl⟩)
   exact st 1 [] (k_end ⟨false, H, ft, rfl⟩)
  clear H;rintro ρ h0 ⟨x2, H, hf, rfl⟩;refine k_fits _ hf ?_ rfl;subst e0;try dsimp only at H
  cases x2
  ·rw [cond_false] at H;refine st 2 [false] (k_out rfl ?_);obtain rfl := si H;exact xE ⟨rfl, trivial, rfl⟩
  rw [cond_true] at H;obtain ⟨c0, H⟩ := guard_pos H;obtain ⟨c1, H⟩ := guard_pos H;refine st 15 [true] (k_val (elemPtr a0 (x1.toNat * 1)) (pI (e := 5) (ik := .i64) s0 c0 c1) ?_);refine k_op (lC (s0.cell1 c0 c1) ?_);refine k_call H (fun _ m => input_strange.calls m) ?_;rintro t0 _ _ H ⟨rfl, rfl⟩;cases t0
  ·rw [cond_false] at H;exact st 8 [false] (k_endL ⟨k, Nat.lt_succ_self _, (w64 (x1 + 1)), H, ft, rfl⟩)
  rw [cond_true] at H;refine st 7 [true] (k_retQ (krL ?_));obtain rfl := si H;obtain rfl := Option.some.inj HR0;exact ⟨_, by kernel_rfl, rfl, rfl⟩
def slices_ContainsFunc_bytes__input_strange.m (K : Nat) (x0 : (List Int)) : Option Bool :=
  ((slices_IndexFunc_bytes__input_strange.m K x0).bind fun t0 => (some (decide (t0 ≥ 0))))
theorem slices_ContainsFunc_bytes__input_strange.calls {B I : Gh} {h : Heap} {K : Nat} {x0 : (List Int)} {a0 : Option Addr} {p0 : Nat} {n0 : Nat} {r : Bool} (H : slices_ContainsFunc_bytes__input_strange.m K x0 = some r)  :
    Fc Tryz.prog 176 #[.slice a0 n0 p0, .func (.func 177) #[] #[]] [rR (tInt .u8) .b a0 p0 n0 x0] B I h (fun v L => v = .bool r ∧ L = []) := by
 refine fc_of fun E hs => ?_;unfold slices_ContainsFunc_bytes__input_strange.m at H;cases hs.nR d0;refine fn_of (rs := [.tmp 4]) (N := 9) Tryz.func176 rfl rfl rfl rfl ?_;refine st 8 [] (k_call H (fun _ m => slices_IndexFunc_bytes__input_strange.calls m (hs.sR d0)) ?_);rintro t0 _ _ H ⟨rfl, rfl⟩;obtain rfl := si H;exact st 3 [] (k_retQ ⟨_, by kernel_rfl, I, _, ⟨rfl, rfl⟩, hs.pk .n⟩)
def input_field.m (K : Nat) (x0 : api_Entry) (x2 : Bool) (x3 : Int) : Option GoErr :=
  (letJ (α := Bool → Option GoErr) (fun x1 => (letJ (α := Bool → Option GoErr) (fun x4 => (bif x4 then (some (GoErr.no 4)) else (letJ (α := Bool → Option GoErr) (fun x5 => (bif x5 then (some (GoErr.no 3)) else (bif x1 then (if (x0.Text.length : Int) = 0 then (some (GoErr.no 1)) else (some GoErr.nil)) else (some GoErr.nil)))) fun j2 => ((slices_ContainsFunc_bytes__input_strange.m K x0.Text).bind fun t0 => bif t0 then (j2 true) else (j2 false))))) fun j0 => (bif x1 then (j0 false) else (if x0.Addr < 0 then (j0 true) else (if x0.Addr ≥ x3 then (j0 true) else (j0 false)))))) fun j1 => (bif x2 then (if x0.Addr = (-1) then (j1 true) else (j1 false)) else (j1 false)))
theorem input_field.calls {B I : Gh} {h : Heap} {K : Nat} {x0 : api_Entry} {x3 : Bool} {x2 : Int} {a0 : Option Addr} {p0 : Nat} {n0 : Nat} {r : GoErr} (H : input_field.m K x0 x3 x2 = some r)  :
    Fc Tryz.prog 119 #[.agg #[iv x0.Addr, .slice a0 n0 p0], .bool x3, iv x2] [rR (tInt .u8) .b a0 p0 n0 x0.Text] B I h (fun v L => ∃ v0, v = v0 ∧ L = [rE .i v0 r]) := by
 refine fc_of fun E hs => ?_;unfold input_field.m at H;cases hs.nR d0;refine fn_of (rs := [.tmp 6]) (N := 43) Tryz.func119 rfl rfl rfl rfl ?_;refine st 2 [] (k_op (nB hs [iv x0.Addr, .slice a0 x0.Text.length p0] ?_));intro b0 h hs;refine st 3 [] ?_;obtain ⟨j0, e0, H⟩ := letJ_some H;refine k_joinT (fun T ρ h => ∃ (x1 : Bool), ∃ I, j0 x1 = some r ∧ Fits [(2, iv x2), (3, pv b0), (7, .bool x1)] ρ ∧ St E T I h) hs tl0 ?_ ?_
 ·refine st 1 [] (k_if H (fun c0 H => ?_) (fun c0 H => ?_));rotate_left
  ·exact st 7 [] (k_end ⟨false, I, H, ft, hs⟩)
  refine st 2 [] (k_op (lB (hs.bl d0) 0 rfl ?_));refine k_ite H (fun c1 H => ?_) (fun c1 H => ?_)
  ·exact st 3 [] (k_end ⟨true, I, H, ft, hs⟩)
  exact st 3 [] (k_end ⟨false, I, H, ft, hs⟩)
 clear H;rintro ρ h ⟨x1, I, H, hf, hs⟩;refine k_fits _ hf ?_ rfl;subst e0;try dsimp only at H
 refine st 3 [] (k_jT H hs (fun x4 => [(3, pv b0), (7, .bool x1), (14, .bool x4)]) ?_ ?_ ?_)
 ·intro j1 H;refine st 1 [] (k_if H (fun c2 H => ?_) (fun c2 H => ?_))
  ·exact st 14 [] (k_end ⟨false, I, H, ft, hs⟩)
  refine st 3 [] (k_op (lB (hs.bl d0) 0 rfl ?_));refine k_ite H (fun c3 H => ?_) (fun c3 H => ?_)
  ·exact st 9 [] (k_end ⟨true, I, H, ft, hs⟩)
  refine st 2 [] (k_op (lB (hs.bl d0) 0 rfl ?_));refine st 1 [] (k_ite H (fun c4 H => ?_) (fun c4 H => ?_))
  ·exact st 4 [] (k_end ⟨true, I, H, ft, hs⟩)
  exact st 4 [] (k_end ⟨false, I, H, ft, hs⟩)
 ·intro ρ h I H hs;obtain rfl := si H;exact st 6 [true] (k_retQ ⟨_, by kernel_rfl, I, _, ⟨(.iface 137 (iv 4)), rfl, rfl⟩, hs.pk (.f imEC .n)⟩)
 intro ρ h I H hs;refine st 2 [false] (k_jT H hs (fun x5 => [(3, pv b0), (7, .bool x1), (29, .bool x5)]) ?_ ?_ ?_)
 ·intro j2 H;refine st 2 [] (k_op (lB (hs.bl d0) 1 rfl ?_));obtain ⟨hk, bk⟩ := hs.call tk0 (.c (qB d1) .n);refine k_call H (fun _ m => slices_ContainsFunc_bytes__input_strange.calls m hk) ?_;rintro t0 _ h H ⟨I, _, ⟨rfl, rfl⟩, hk⟩;replace hs := bk hk ct0 rfl;cases t0
  ·rw [cond_false] at H;exact st 2 [] (k_end ⟨false, I, H, ft, hs⟩)
  rw [cond_true] at H;exact st 2 [] (k_end ⟨true, I, H, ft, hs⟩)
 ·intro ρ h I H hs;obtain rfl := si H;exact st 6 [true] (k_retQ ⟨_, by kernel_rfl, I, _, ⟨(.iface 137 (iv 3)), rfl, rfl⟩, hs.pk (.f imEC .n)⟩)
 intro ρ h I H hs;refine st 3 [false] (k_if H (fun c5 H => ?_) (fun c5 H => ?_));rotate_left
 ·obtain rfl := si H;exact st 15 [false] (k_retQ ⟨_, by kernel_rfl, I, _, ⟨(.nilIface), rfl, rfl⟩, hs.pk (.f imEN .n)⟩)
 refine st 2 [] (k_op (lB (hs.bl d0) 1 rfl ?_));refine st 1 [] (k_ite H (fun c6 H => ?_) (fun c6 H => ?_))
 ·obtain rfl := si H;exact st 9 [true] (k_retQ ⟨_, by kernel_rfl, I, _, ⟨(.iface 137 (iv 1)), rfl, rfl⟩, hs.pk (.f imEC .n)⟩)
 obtain rfl := si H;exact st 10 [false] (k_retQ ⟨_, by kernel_rfl, I, _, ⟨(.nilIface), rfl, rfl⟩, hs.pk (.f imEN .n)⟩)
def input_Right.l1.m (K : Nat) (x1 : api_In) (x2 : Int) : Nat → Int → Option (GoErr ⊕ (Unit))
  | 0, _ => none
  | k + 1, x0 => (letJ (α := Bool → Option (GoErr ⊕ (Unit))) (fun x3 => (bif x3 then (if 0 ≤ x0 then (if x0 < (x1.Fields.length : Int) then ((input_field.m K (at_ x1.Fields x0) ((x1.Fields.length : Int) == 1) x2).bind fun t0 => (if t0 = GoErr.nil then (input_Right.l1.m K x1 x2 k (w64 (x0 + 1))) else ((input_spot.m x0 t0).bind fun t1 => (some (Sum.inl t1))))) else none) else none) else (some (Sum.inr ())))) fun j0 => (if x0 < (x1.Fields.length : Int) then (j0 true) else (j0 false)))
def input_Right.m (K : Nat) (x0 : api_In) (x1 : Int) : Option GoErr :=
  (letJ (α := Bool → Option GoErr) (fun x2 => (bif x2 then (some (GoErr.no 3)) else (letJ (α := Bool → Option GoErr) (fun x3 => (bif x3 then (if x0.Cursor = 0 then (if (x0.Fields.length : Int) > 0 then (some (GoErr.no 1)) else (some GoErr.nil)) else (some (GoErr.no 1))) else (if x0.Cursor < 0 then (some (GoErr.no 4)) else (if x0.Cursor ≥ x1 then (some (GoErr.no 4)) else ((input_Right.l1.m K x0 x1 K 0).bind fun s0 => match s0 with | .inl q => (some q) | .inr _ => (some GoErr.nil)))))) fun j1 => ((attr_Bare.m x0.Aid).bind fun t1 => bif t1 then (j1 true) else (j1 false))))) fun j0 => ((attr_Aid.m x0.Aid).bind fun t0 => bif t0 then (j0 false) else (j0 true)))
theorem input_Right.calls {B I : Gh} {h : Heap} {K : Nat} {x0 : api_In} {x2 : Int} {a0 : Option Addr} {p0 : Nat} {n0 : Nat} {r : GoErr} (H : input_Right.m K x0 x2 = some r)  :
    Fc Tryz.prog 64 #[.agg #[.int .u8 x0.Aid, iv x0.Cursor, .slice a0 n0 p0], iv x2] [rR t_api_Entry .b a0 p0 n0 x0.Fields] B I h (fun v L => ∃ v0, v = v0 ∧ L = [rE .i v0 r]) := by
 refine fc_of fun E hs => ?_;unfold input_Right.m at H;cases hs.nR d0;refine fn_of (rs := [.tmp 4]) (N := 60) Tryz.func64 rfl rfl rfl rfl ?_;refine st 2 [] (k_op (nB hs [.int .u8 x0.Aid, iv x0.Cursor, .slice a0 x0.Fields.length p0] ?_));intro b0 h hs;refine st 5 [] (k_jT H hs (fun x3 => [(1, iv x2), (2, pv b0), (8, .bool x3)]) ?_ ?_ ?_)
 ·intro j0 H;refine st 2 [] (k_op (lB (hs.bl d0) 0 rfl ?_));refine k_call H (fun _ m => attr_Aid.calls m) ?_;rintro t0 _ _ H ⟨rfl, rfl⟩;cases t0
  ·rw [cond_false] at H;exact st 3 [] (k_end ⟨true, I, H, ft, hs⟩)
  rw [cond_true] at H;exact st 3 [] (k_end ⟨false, I, H, ft, hs⟩)
 ·intro ρ h I H hs;obtain rfl := si H;exact st 6 [true] (k_retQ ⟨_, by kernel_rfl, I, _, ⟨(.iface 137 (iv 3)), rfl, rfl⟩, hs.pk (.f imEC .n)⟩)
 intro ρ h I H hs;refine st 2 [false] (k_jT H hs (fun x4 => [(1, iv x2), (2, pv b0), (14, .bool x4)]) ?_ ?_ ?_)
 ·intro j1 H;refine st 2 [] (k_op (lB (hs.bl d0) 0 rfl ?_));refine k_call H (fun _ m => attr_Bare.calls m) ?_;rintro t1 _ _ H ⟨rfl, rfl⟩;cases t1
  ·rw [cond_false] at H;exact st 2 [] (k_end ⟨false, I, H, ft, hs⟩)
  rw [cond_true] at H;exact st 2 [] (k_end ⟨true, I, H, ft, hs⟩)
 ·intro ρ h I H hs;refine st 5 [true] (k_op (lB (hs.bl d0) 1 rfl ?_));refine k_iteN H (fun c3 H => ?_) (fun c3 H => ?_);rotate_left
  ·obtain rfl := si H;exact st 13 [true] (k_retQ ⟨_, by kernel_rfl, I, _, ⟨(.iface 137 (iv 1)), rfl, rfl⟩, hs.pk (.f imEC .n)⟩)
  refine st 2 [] (k_op (lB (hs.bl d0) 2 rfl ?_));refine st 1 [] (k_ite H (fun c4 H => ?_) (fun c4 H => ?_))
  ·obtain rfl := si H;exact st 8 [true] (k_retQ ⟨_, by kernel_rfl, I, _, ⟨(.iface 137 (iv 1)), rfl, rfl⟩, hs.pk (.f imEC .n)⟩)
  obtain rfl := si H;exact st 8 [false] (k_retQ ⟨_, by kernel_rfl, I, _, ⟨(.nilIface), rfl, rfl⟩, hs.pk (.f imEN .n)⟩)
 intro ρ h I H hs;refine st 4 [false] (k_op (lB (hs.bl d0) 1 rfl ?_));refine k_ite H (fun c5 H => ?_) (fun c5 H => ?_)
 ·obtain rfl := si H;exact st 14 [true] (k_retQ ⟨_, by kernel_rfl, I, _, ⟨(.iface 137 (iv 4)), rfl, rfl⟩, hs.pk (.f imEC .n)⟩)
 refine st 2 [] (k_op (lB (hs.bl d0) 1 rfl ?_));refine st 1 [] (k_ite H (fun c6 H => ?_) (fun c6 H => ?_))
 ·obtain rfl := si H;exact st 9 [true] (k_retQ ⟨_, by kernel_rfl, I, _, ⟨(.iface 137 (iv 4)), rfl, rfl⟩, hs.pk (.f imEC .n)⟩)
 refine st 10 [false] (k_op (lB (hs.bl d0) 2 rfl ?_));refine st 4 [] ?_;obtain ⟨s0, m0, HR0⟩ := bind_some H;refine k_loopT hs tl0 1 (fun T k' ρ h => ∃ (x1 : Int), ∃ I, input_Right.l1.m K x0 x2 k' x1 = some s0 ∧ Fits [(1, iv x2), (2, pv b0), (40, .slice a0 x0.Fields.length p0), (41, iv (x0.Fields.length : Int)), (42, iv x1)] ρ ∧ St E T I h) (fun T ρ h => ∃ I, Sum.inr () = s0 ∧ Fits [] ρ ∧ St E T I h) K ⟨0, I, m0, ft, hs⟩ ?_ rfl ?_;rotate_left
 ·rintro ρ h ⟨I, rfl, hf, hs⟩;have H := HR0;try dsimp only at H
  refine k_fits _ hf ?_ rfl;obtain rfl := si H;exact st 4 [] (k_retQ ⟨_, by kernel_rfl, I, _, ⟨(.nilIface), rfl, rfl⟩, hs.pk (.f imEN .n)⟩)
 clear m0 H;rintro k' ρ h ⟨x1, I, H, hf, hs⟩;cases k' with
 | zero => cases H
 | succ k =>
  rw [input_Right.l1.m] at H;refine k_fits _ hf ?_ rfl;refine st 1 [] (k_jF H hs (fun x5 => [(1, iv x2), (2, pv b0), (40, .slice a0 x0.Fields.length p0), (41, iv (x0.Fields.length : Int)), (42, iv x1), (43, .bool x5)]) ?_ ?_ ?_)
  ·intro j2 H;refine st 1 [] (k_ite H (fun c7 H => ?_) (fun c7 H => ?_))
   ·exact st 1 [] (k_end ⟨true, I, H, ft, hs⟩)
   exact st 1 [] (k_end ⟨false, I, H, ft, hs⟩)
  ·intro ρ h I H hs;refine st 2 [false] (k_out rfl ?_);obtain rfl := si H;exact xE ⟨I, rfl, trivial, hs⟩
  intro ρ h I H hs;obtain ⟨c1, H⟩ := guard_pos H;obtain ⟨c2, H⟩ := guard_pos H;refine st 8 [true] (k_val (elemPtr a0 (x1.toNat * 2)) (pI (e := 135) (ik := .i64) (hs.sR d1) c1 c2) ?_);obtain ⟨y0, g0, q1⟩ := (hs.sR d1).toSl.seg c1 c2;obtain ⟨a1, p1, n1, rfl, q0⟩ := t_api_Entry.open_ q1;obtain rfl := q0.2;replace hs := hs.pR q0;refine k_op (lG g0 ?_);refine k_op (nA hs [iv 0, .slice none 0 0] (.agg #[iv 0, .slice none 0 0]) ?_);intro b1 h hs;refine st 1 [] (k_op (sN0 hs [iv ((at_ x0.Fields x1).Addr), .slice a1 (((at_ x0.Fields x1).Text).length) p1] (ones_of rfl) ?_));intro h hs;refine st 3 [] (k_op (lN (hs.bl d0) 0 2 ?_));refine st 1 [] (k_op (lB (hs.bl d2) 2 rfl ?_));obtain ⟨hk, bk⟩ := hs.call tk0 (.c (qB d1) .n);refine st 3 [] (k_call H (fun _ m => input_field.calls m hk) ?_);rintro t2 v2 h H ⟨I, _, ⟨_, rfl, rfl⟩, hk⟩;replace hs := bk hk ct1 rfl;rcases (hs.er d0).cases with ⟨c0, rfl⟩ | ⟨c0, t3, u0, rfl⟩
  ·rw [if_pos c0] at H;exact st 14 [false] (k_endL ⟨k, Nat.lt_succ_self _, (w64 (x1 + 1)), I, H, ft, hs.pk pk3⟩)
  rw [if_neg c0] at H;obtain ⟨hk, bk⟩ := hs.call tk0 (.c (xK d0) .n);refine st 12 [true] (k_call H (fun _ m => input_spot.calls m hk) ?_);rintro t4 v1 h H ⟨I, _, ⟨_, rfl, rfl⟩, hk⟩;replace hs := bk hk ct1 rfl;refine st 2 [] (k_retQ (krL ?_));obtain rfl := si H;obtain rfl := Option.some.inj HR0;exact ⟨_, by kernel_rfl, I, _, ⟨(v1), rfl, rfl⟩, hs.pk (.c d0 .n)⟩
def input_place.m (K : Nat) (x0 : Int) (x1 : Int) : Option (List Int) :=
  ((addr_Put.m K x0 x1).bind fun t0 => (some t0.1))
theorem input_place.calls {B I : Gh} {h : Heap} {K : Nat} {x0 : Int} {x1 : Int} {r : (List Int)} (H : input_place.m K x0 x1 = some r)  :
    Fc Tryz.prog 66 #[iv x0, iv x1] [] B I h (fun v L => ∃ a0 p0 n0, v = .slice a0 n0 p0 ∧ L = [rR (tInt .u8) .i a0 p0 n0 r]) := by
 refine fc_of fun E hs => ?_;unfold input_place.m at H;refine fn_of (rs := [.tmp 4]) (N := 14) Tryz.func66 rfl rfl rfl rfl ?_;obtain ⟨hk, bk⟩ := hs.call tk0 .n;refine st 8 [] (k_call H (fun _ m => addr_Put.calls m hk) ?_);rintro t0 _ h H ⟨I, _, ⟨v0, rfl, rfl, hl0⟩, hk⟩;replace hs := bk hk ct1 rfl;refine st 3 [] (k_op (nA hs (List.map (Value.int .u8) (List.replicate 2 (0 : Int))) (.agg (List.map (Value.int .u8) (List.replicate 2 (0 : Int))).toArray) ?_));intro b0 h hs;refine k_op (sAN (l2 := t0.1) hs (List.length_replicate (n := 2) (a := (0 : Int))) hl0 ?_);intro h hs;obtain ⟨I, hs⟩ := hs.fA hl0;obtain rfl := si H;exact st 7 [] (k_retQ ⟨_, by kernel_rfl, I, _, ⟨(sa b0), 2, 2, rfl, rfl⟩, hs.pk (.c d0 .n)⟩)
def input_Write.l1.m (K : Nat) (x1 : api_In) (x2 : Int) : Nat → (List Int) → Int → Option ((List Int))
  | 0, _, _ => none
  | k + 1, x3, x0 => (letJ (α := Bool → Option ((List Int))) (fun x4 => (bif x4 then (if 0 ≤ x0 then (if x0 < (x1.Fields.length : Int) then (letJ (α := Bool → Option ((List Int))) (fun x5 => (bif x5 then ((app x3 [17]).bind fun l0 => ((input_place.m K ((at_ x1.Fields x0).Addr) x2).bind fun t0 => ((app l0 t0).bind fun l1 => ((app l1 ((at_ x1.Fields x0).Text)).bind fun l2 => (input_Write.l1.m K x1 x2 k l2 (w64 (x0 + 1))))))) else ((app x3 ((at_ x1.Fields x0).Text)).bind fun l3 => (input_Write.l1.m K x1 x2 k l3 (w64 (x0 + 1)))))) fun j1 => (if (at_ x1.Fields x0).Addr = (-1) then (j1 false) else (j1 true))) else none) else none) else (some (x3)))) fun j0 => (if x0 < (x1.Fields.length : Int) then (j0 true) else (j0 false)))
def input_Write.m (K : Nat) (x0 : api_In) (x1 : Int) : Option ((List Int) × GoErr) :=
  ((input_Right.m K x0 x1).bind fun t0 => (if t0 = GoErr.nil then ((attr_Bare.m x0.Aid).bind fun t1 => bif t1 then (some ([x0.Aid], GoErr.nil)) else ((input_place.m K x0.Cursor x1).bind fun t2 => ((app [x0.Aid] t2).bind fun l0 => ((input_Write.l1.m K x0 x1 K l0 0).bind fun x2 => (if (x2.length : Int) > 8192 then (some ([], (GoErr.no 6))) else (some (x2, GoErr.nil))))))) else (some ([], t0))))
theorem input_Write.calls {B I : Gh} {h : Heap} {K : Nat} {x0 : api_In} {x3 : Int} {a0 : Option Addr} {p0 : Nat} {n3 : Nat} {r : ((List Int) × GoErr)} (H : input_Write.m K x0 x3 = some r)  :
    Fc Tryz.prog 17 #[.agg #[.int .u8 x0.Aid, iv x0.Cursor, .slice a0 n3 p0], iv x3] [rR t_api_Entry .b a0 p0 n3 x0.Fields] B I h (fun v L => ∃ a3 p3 n2 v0, v = .tuple #[.slice a3 n2 p3, v0] ∧ L = [rO (tInt .u8) .i a3 p3 n2 r.1, rE .i v0 r.2]) := by
 refine fc_of fun E hs => ?_;unfold input_Write.m at H;cases hs.nR d0;refine fn_of (rs := [.tmp 4, .tmp 5]) (N := 57) Tryz.func17 rfl rfl rfl rfl ?_;refine st 2 [] (k_op (nB hs [.int .u8 x0.Aid, iv x0.Cursor, .slice a0 x0.Fields.length p0] ?_));intro b2 h hs;refine st 6 [] (k_op (lN (hs.bl d0) 0 3 ?_));obtain ⟨hk, bk⟩ := hs.call tk0 (.c (qB d1) .n);refine st 1 [] (k_call H (fun _ m => input_Right.calls m hk) ?_);rintro t2 v1 h H ⟨I, _, ⟨_, rfl, rfl⟩, hk⟩;replace hs := bk hk ct1 rfl;rcases (hs.er d0).cases with ⟨c0, rfl⟩ | ⟨c0, t0, u0, rfl⟩;rotate_left
 ·rw [if_neg c0] at H;obtain rfl := si H;exact st 14 [true] (k_retQ ⟨_, by kernel_rfl, I, _, ⟨none, 0, 0, ((.iface t0 u0)), rfl, rfl⟩, hs.pk (.f imON (.c d0 .n))⟩)
 rw [if_pos c0] at H;refine st 12 [false] (k_op (lB (hs.bl d1) 0 rfl ?_));refine k_op (nS (e := 5) hs .i (tInt .u8) ([x0.Aid] : List Int) [.int .u8 x0.Aid] 1 (.int .u8 0) (Reps.int (I := (Cl.G .i E.B I)) (k := .u8) (l := [x0.Aid])) ?_);intro b0 h hs;refine st 6 [] (k_op (lB (hs.bl d2) 0 rfl ?_));refine k_call H (fun _ m => attr_Bare.calls m) ?_;rintro t1 _ _ H ⟨rfl, rfl⟩;cases t1;rotate_left
 ·rw [cond_true] at H;obtain rfl := si H;exact st 8 [true] (k_retQ ⟨_, by kernel_rfl, I, _, ⟨(sa b0), 1, 1, (.nilIface), rfl, rfl⟩, hs.pk (.c d0 (.f imEN .n))⟩)
 rw [cond_false] at H;refine st 7 [false] (k_op (lB (hs.bl d2) 1 rfl ?_));obtain ⟨hk, bk⟩ := hs.call tk0 .n;refine st 1 [] (k_call H (fun _ m => input_place.calls m hk) ?_);rintro t3 _ h H ⟨I, _, ⟨a9, p9, n4, rfl, rfl⟩, hk⟩;replace hs := bk hk ct1 rfl;cases hs.nR d0;replace hs := (hs.f d1);obtain ⟨l0, m1, H⟩ := bind_some H;refine k_op (aO (e := 5) (bytes := 1) hs (hs.sR d1) m1 ?_);intro a5 p5 h hs;refine st 6 [] (k_op (lB (hs.bl d3) 2 rfl ?_));refine st 4 [] ?_;obtain ⟨s0, m0, HR0⟩ := bind_some H;refine k_loopT hs tl1 0 (fun T k' ρ h => ∃ (x2 : List Int) (x1 : Int), ∃ a1 p1 n0 I, input_Write.l1.m K x0 x3 k' x2 x1 = some s0 ∧ Fits [(1, iv x3), (7, .slice a1 n0 p1), (30, .slice a0 x0.Fields.length p0), (31, iv (x0.Fields.length : Int)), (32, iv x1)] ρ ∧ St E (rO (tInt .u8) .i a1 p1 n0 x2 :: T) I h) (fun T ρ h => ∃ (x4 : List Int), ∃ a2 p2 n1 I, x4 = s0 ∧ Fits [(7, .slice a2 n1 p2)] ρ ∧ St E (rO (tInt .u8) .i a2 p2 n1 x4 :: T) I h) K ⟨l0, 0, a5, p5, l0.length, I, m0, ft, hs.pk (.c d0 pk0)⟩ ?_ rfl ?_;rotate_left
 ·rintro ρ h ⟨x4, a2, p2, n1, I, rfl, hf, hs⟩;have H := HR0;try dsimp only at H
  refine k_fits _ hf ?_ rfl;cases hs.nO d0;refine st 5 [] (k_ite H (fun c3 H => ?_) (fun c3 H => ?_))
  ·obtain rfl := si H;exact st 8 [true] (k_retQ ⟨_, by kernel_rfl, I, _, ⟨none, 0, 0, (.iface 137 (iv 6)), rfl, rfl⟩, hs.pk (.f imON (.f imEC .n))⟩)
  obtain rfl := si H;exact st 9 [false] (k_retQ ⟨_, by kernel_rfl, I, _, ⟨a2, p2, x4.length, (.nilIface), rfl, rfl⟩, hs.pk (.c d0 (.f imEN .n))⟩)
 clear HR0 m0 H;rintro k' ρ h ⟨x2, x1, a1, p1, n0, I, H, hf, hs⟩;cases k' with
 | zero => cases H
 | succ k =>
  rw [input_Write.l1.m] at H;refine k_fits _ hf ?_ rfl;cases hs.nO d0;refine st 1 [] (k_jF H hs (fun x5 => [(1, iv x3), (7, .slice a1 x2.length p1), (30, .slice a0 x0.Fields.length p0), (31, iv (x0.Fields.length : Int)), (32, iv x1), (33, .bool x5)]) ?_ ?_ ?_)
  ·intro j0 H;refine st 1 [] (k_ite H (fun c4 H => ?_) (fun c4 H => ?_))
   ·exact st 1 [] (k_end ⟨true, I, H, ft, hs⟩)
   exact st 1 [] (k_end ⟨false, I, H, ft, hs⟩)
  ·intro ρ h I H hs;refine st 2 [false] (k_out rfl ?_);obtain rfl := si H;exact xE ⟨x2, a1, p1, x2.length, I, rfl, ft, hs.pk (.c d0 pk0)⟩
  intro ρ h I H hs;obtain ⟨c1, H⟩ := guard_pos H;obtain ⟨c2, H⟩ := guard_pos H;refine st 7 [true] (k_val (elemPtr a0 (x1.toNat * 2)) (pI (e := 135) (ik := .i64) (hs.sR d4) c1 c2) ?_);obtain ⟨y0, g0, q1⟩ := (hs.sR d4).toSl.seg c1 c2;obtain ⟨a6, p6, n5, rfl, q0⟩ := t_api_Entry.open_ q1;obtain rfl := q0.2;replace hs := hs.pR q0;refine k_op (lG g0 ?_);refine k_op (nA hs [iv 0, .slice none 0 0] (.agg #[iv 0, .slice none 0 0]) ?_);intro b1 h hs;refine k_op (sN0 hs [iv ((at_ x0.Fields x1).Addr), .slice a6 (((at_ x0.Fields x1).Text).length) p6] (ones_of rfl) ?_);intro h hs;refine st 3 [] (k_jF H hs (fun x6 => [(1, iv x3), (7, .slice a1 x2.length p1), (9, pv b1), (30, .slice a0 x0.Fields.length p0), (31, iv (x0.Fields.length : Int)), (32, iv x1), (38, .bool x6)]) ?_ ?_ ?_)
  ·intro j1 H;refine st 2 [] (k_op (lB (hs.bl d0) 0 rfl ?_));refine k_iteN H (fun c5 H => ?_) (fun c5 H => ?_)
   ·exact st 1 [] (k_end ⟨false, I, H, ft, hs⟩)
   exact st 1 [] (k_end ⟨true, I, H, ft, hs⟩)
  ·intro ρ h I H hs;refine st 5 [false] (k_op (lB (hs.bl d0) 1 rfl ?_));replace hs := (hs.f d2);obtain ⟨l2, m5, H⟩ := bind_some H;refine k_op (aO (e := 5) (bytes := 1) hs ((hs.sR d2).flat flat_int) m5 ?_);intro a4 p4 h hs;exact st 7 [] (k_endL ⟨k, Nat.lt_succ_self _, l2, (w64 (x1 + 1)), a4, p4, l2.length, I, H, ft, hs.pk (.c d0 pk2)⟩)
  intro ρ h I H hs;refine st 1 [true] ?_;obtain ⟨hs0, bk0⟩ := (hs.f d2).call tk1 (.c (qL d0) .n);have hs := hs0;refine k_regD hs0 6 ?_;refine aRun [0, 3] 7 hs.keep ?_;refine aL 4 rfl hs.keep (ll hs0 d1 (n := 0) rfl) (nmL hs0 d1) ?_;refine aRun [5] 5 hs.keep ?_;refine aO1 1 rfl (nS (e := 5) hs .i (tInt .u8) ([17] : List Int) [.int .u8 17] 1 (.int .u8 0) (Reps.int (I := (Cl.G .i E.B I)) (k := .u8) (l := [17])) ?_);intro b3 h hs;refine ⟨hs.keep, ?_⟩;replace hs := (hs.f d1);obtain ⟨l4, m2, H⟩ := bind_some H;refine aO1 2 rfl (aO (e := 5) (bytes := 1) hs (hs.sO d1) m2 ?_);intro aB pA h hs;refine ⟨hs.keep, ?_⟩;replace hs := hs.pk (.c d0 (.c d0 .n));replace hs := bk0 hs ct2 rfl;obtain ⟨hk, bk⟩ := hs.call tk0 .n;refine aOL 6 rfl (o_call H (fun _ m => input_place.calls m hk) ?_);rintro t4 _ h H ⟨I, _, ⟨aC, pB, n6, rfl, rfl⟩, hk⟩;replace hs := bk hk ct1 rfl;cases hs.nR d0;replace hs := (hs.f d1);obtain ⟨l3, m3, H⟩ := bind_some H;refine aOL 7 rfl (aO (e := 5) (bytes := 1) hs (hs.sR d1) m3 ?_);intro a7 p7 h hs;refine aOL 8 rfl (owp_pure (.slice a7 l3.length p7) (by kernel_rfl) ?_);refine aEnd ?_;refine st 3 [] (k_op (lB (hs.bl d3) 1 rfl ?_));obtain ⟨l1, m4, H⟩ := bind_some H;refine k_op (aO (e := 5) (bytes := 1) hs ((hs.sR d4).flat flat_int) m4 ?_);intro a8 p8 h hs;exact st 7 [] (k_endL ⟨k, Nat.lt_succ_self _, l1, (w64 (x1 + 1)), a8, p8, l1.length, I, H, ft, hs.pk (.c d0 pk4)⟩)
def read_Reply.m (K : Nat) (x0 : api_Screen) (x1 : Int) (x2 : Int) : Option ((List Int) × GoErr) :=
  (if x1 = 246 then ((read_Modified.m K x0 x2).bind fun t0 => (if t0.2 = GoErr.nil then ((grid_Size.m x0).bind fun t2 => ((input_Write.m K t0.1 t2).bind fun t1 => (some (t1.1, t1.2)))) else none)) else none)
theorem read_Reply.calls {B I : Gh} {h : Heap} {K : Nat} {x0 : api_Screen} {x1 : Int} {x2 : Int} {a0 : Option Addr} {p0 : Nat} {n0 : Nat} {r : ((List Int) × GoErr)} (H : read_Reply.m K x0 x1 x2 = some r)  :
    Fc Tryz.prog 186 #[.agg (cl_api_Screen x0 a0 n0 p0).toArray, iv x1, .int .u8 x2] [rR t_api_Cell .b a0 p0 n0 x0.Cells] B I h (fun v L => ∃ a1 p1 n1 v0, v = .tuple #[.slice a1 n1 p1, v0] ∧ L = [rO (tInt .u8) .i a1 p1 n1 r.1, rE .i v0 r.2]) := by
 refine fc_of fun E hs => ?_;unfold read_Reply.m at H;cases hs.nR d0;refine fn_of (rs := [.tmp 6, .tmp 7]) (N := 39) Tryz.func186 rfl rfl rfl rfl ?_;refine st 2 [] (k_op (nB hs (cl_api_Screen x0 a0 x0.Cells.length p0) ?_));intro b0 h hs;refine st 11 [] (k_ite H (fun c1 H => ?_) (fun c1 H => ?_));rotate_left
 ·cases H
 refine st 5 [true] (k_op (lN (hs.bl d0) 0 6 ?_));obtain ⟨hk, bk⟩ := hs.call tk0 (.c (qB d1) .n);refine st 1 [] (k_call H (fun _ m => read_Modified.calls m hk) ?_);rintro t0 _ h H ⟨I, _, ⟨a2, p2, n2, v2, rfl, rfl⟩, hk⟩;replace hs := bk hk ct2 rfl;cases hs.nO d0;refine st 3 [] (k_op (nA hs [.int .u8 0, iv 0, .slice none 0 0] (.agg #[.int .u8 0, iv 0, .slice none 0 0]) ?_));intro b1 h hs;refine k_op (sN0 hs [.int .u8 t0.1.Aid, iv t0.1.Cursor, .slice a2 t0.1.Fields.length p2] (ones_of rfl) ?_);intro h hs;rcases (hs.er d2).cases with ⟨c0, rfl⟩ | ⟨c0, t2, u0, rfl⟩;rotate_left
 ·rw [if_neg c0] at H;cases H
 rw [if_pos c0] at H;refine st 11 [false] ?_;obtain ⟨hs0, bk0⟩ := hs.call tk0 (.c (qL d0) (.c (qL d3) (.c (qB d4) (.c (qO d1) .n))));have hs := hs0;refine k_regD hs0 8 ?_;refine aG 0 rfl hs.keep (lls hs0 d0 0 3 rfl) (nmL hs0 d0) ?_;refine aG 1 rfl hs.keep (lls hs0 d1 0 6 rfl) (nmL hs0 d1) ?_;obtain ⟨hk, bk⟩ := hs.call tk0 (.c (qB d2) .n);refine aO1 2 rfl (o_call H (fun _ m => grid_Size.calls m hk) ?_);rintro t3 _ h H ⟨I, _, ⟨rfl, rfl⟩, hk⟩;replace hs := bk hk ct0 rfl;refine ⟨hs.keep, ?_⟩;obtain ⟨hk, bk⟩ := hs.call tk0 (.c (qB d3) .n);refine aO1 3 rfl (o_call H (fun _ m => input_Write.calls m hk) ?_);rintro t1 _ h H ⟨I, _, ⟨a3, p3, n3, v1, rfl, rfl⟩, hk⟩;replace hs := bk hk ct2 rfl;cases hs.nO d0;refine ⟨hs.keep, ?_⟩;refine aRun [4, 5, 6, 7] 0 hs.keep ?_;replace hs := hs.pk (.c d0 (.c d0 .n));replace hs := bk0 hs ct2 rfl;refine aEnd ?_;obtain rfl := si H;exact k_retQ ⟨_, by kernel_rfl, I, _, ⟨a3, p3, t1.1.length, (v1), rfl, rfl⟩, hs.pk (.c d0 (.c d0 .n))⟩
end Go.Proofs.YtjkbhpokboolpaaGreatDoor.Sx
