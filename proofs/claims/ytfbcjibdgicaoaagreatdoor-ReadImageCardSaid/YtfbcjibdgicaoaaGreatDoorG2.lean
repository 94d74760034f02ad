/- Printed walks, part 2: each function's model, and that the code comes to it. -/
import Derived.Test.YtfbcjibdgicaoaaGreatDoorProg
import Derived.Test.YtfbcjibdgicaoaaGreatDoorV4
import Derived.Test.YtfbcjibdgicaoaaGreatDoorVF
import Derived.Test.YtfbcjibdgicaoaaGreatDoorV6
import Derived.Test.YtfbcjibdgicaoaaGreatDoorV7
import Derived.Test.YtfbcjibdgicaoaaGreatDoorG1
namespace Go.Proofs.YtfbcjibdgicaoaaGreatDoor.Sx
open Go
set_option maxRecDepth 100000
set_option maxHeartbeats 4000000

/-! slices.ContainsFunc[[]byte,byte] -/
def slices_ContainsFunc_bytes__order_Right_1.m (K : Nat) (x0 : (List Int)) : Option Bool :=
  ((slices_IndexFunc_bytes__order_Right_1.m K x0).bind fun t25 => (some (decide (t25 ≥ 0))))

theorem slices_ContainsFunc_bytes__order_Right_1.calls {B I : Gh} {h : Heap} {K : Nat} {x0 : (List Int)} {a21 : Option Addr} {p22 : Nat} {n23 : Nat} {r : Bool} (H : slices_ContainsFunc_bytes__order_Right_1.m K x0 = some r)  :
    Fc Tryz.prog 94 #[.slice a21 n23 p22, .func (.func 104) #[] #[]] [rR (tInt .u8) .b a21 p22 n23 x0] B I h (fun v L => v = .bool r ∧ L = []) := by
 refine fc_of fun E hs => ?_
 unfold slices_ContainsFunc_bytes__order_Right_1.m at H
 obtain rfl := hs.nR d0
 refine fn_of (args := [.slice a21 x0.length p22, .func (.func 104) #[] #[]]) (rs := [.tmp 4]) (N := 9) Tryz.func94 rfl rfl rfl rfl ?_
 refine st 8 [] (k_call H (fun _ m => slices_IndexFunc_bytes__order_Right_1.calls m (hs.sR d0)) ?_)
 rintro t25 _ _ H ⟨rfl, rfl⟩
 refine st 3 [] ?_
 refine k_retQ ?_
 obtain rfl := Option.some.inj H
 exact ⟨_, by kernel_rfl, I, _, ⟨rfl, rfl⟩, hs.pk .n⟩

/-! shutter/order.Right -/
def order_Right.m (K : Nat) (x0 : api_Order) (x1 : Int) : Option GoErr :=
  (if x0.Kind < 1 then (some (GoErr.no 5)) else (if x0.Kind > 7 then (some (GoErr.no 5)) else (letJ (α := Bool → Bool → Bool → Bool → Option GoErr) (fun (x36 : Bool) (x37 : Bool) (x38 : Bool) (x39 : Bool) => ((attr_Put.m K x0.Attr).bind fun t41 => (letJ (α := Bool → Option GoErr) (fun (x46 : Bool) => (bif x46 then (some (GoErr.no 1)) else (letJ (α := Bool → Option GoErr) (fun (x53 : Bool) => (bif x53 then (some (GoErr.no 1)) else (letJ (α := Bool → Option GoErr) (fun (x62 : Bool) => (bif x62 then (some (GoErr.no 1)) else (bif x38 then (if x0.Addr < 0 then (some (GoErr.no 4)) else (if x0.Addr ≥ x1 then (some (GoErr.no 4)) else (some GoErr.nil))) else (some GoErr.nil)))) fun (j63 : Bool → Option GoErr) => (bif x39 then ((order_Right_1.m x0.Char).bind fun t56 => bif t56 then (j63 true) else (bif x38 then (j63 false) else (if x0.Addr = 0 then (j63 false) else (j63 true)))) else (if x0.Char = 0 then (bif x38 then (j63 false) else (if x0.Addr = 0 then (j63 false) else (j63 true))) else (j63 true)))))) fun (j54 : Bool → Option GoErr) => (bif x37 then (if t41.2 = GoErr.nil then (j54 false) else (j54 true)) else (bif ((x0.Attr.Protected == false) && ((x0.Attr.Numeric == false) && ((x0.Attr.Show == 0) && ((x0.Attr.Modified == false) && true)))) then (j54 false) else (j54 true)))))) fun (j47 : Bool → Option GoErr) => (bif (x36 != (decide ((x0.Text.length : Int) > 0))) then (j47 true) else ((slices_ContainsFunc_bytes__order_Right_1.m K x0.Text).bind fun t45 => bif t45 then (j47 true) else (j47 false)))))) fun (j40 : Bool → Bool → Bool → Bool → Option GoErr) => ((order_has.m x0.Kind).bind fun t28 => (bif t28.2.1 then (bif t28.2.2.1 then (bif t28.2.2.2 then (j40 t28.1 true true true) else (j40 t28.1 true true false)) else (bif t28.2.2.2 then (j40 t28.1 true false true) else (j40 t28.1 true false false))) else (bif t28.2.2.1 then (bif t28.2.2.2 then (j40 t28.1 false true true) else (j40 t28.1 false true false)) else (bif t28.2.2.2 then (j40 t28.1 false false true) else (j40 t28.1 false false false))))))))

theorem order_Right.calls {B I : Gh} {h : Heap} {K : Nat} {x0 : api_Order} {x1 : Int} {a21 : Option Addr} {p22 : Nat} {n23 : Nat} {r : GoErr} (H : order_Right.m K x0 x1 = some r)  :
    Fc Tryz.prog 66 #[.agg #[.int .i64 x0.Kind, .slice a21 n23 p22, .bool x0.Attr.Protected, .bool x0.Attr.Numeric, .int .i64 x0.Attr.Show, .bool x0.Attr.Modified, .int .i64 x0.Addr, .int .u8 x0.Char], .int .i64 x1] [rR (tInt .u8) .b a21 p22 n23 x0.Text] B I h (fun v L => ∃ (v71 : Value), v = v71 ∧ L = [rE .i v71 r]) := by
 refine fc_of fun E hs => ?_
 unfold order_Right.m at H
 obtain rfl := hs.nR d0
 refine fn_of (args := [.agg #[.int .i64 x0.Kind, .slice a21 x0.Text.length p22, .bool x0.Attr.Protected, .bool x0.Attr.Numeric, .int .i64 x0.Attr.Show, .bool x0.Attr.Modified, .int .i64 x0.Addr, .int .u8 x0.Char], .int .i64 x1]) (rs := [.tmp 4]) (N := 107) Tryz.func66 rfl rfl rfl rfl ?_
 refine st 2 [] (k_op (nB hs [.int .i64 x0.Kind, .slice a21 x0.Text.length p22, .bool x0.Attr.Protected, .bool x0.Attr.Numeric, .int .i64 x0.Attr.Show, .bool x0.Attr.Modified, .int .i64 x0.Addr, .int .u8 x0.Char] ?_))
 intro b25 h hs
 refine st 6 [] (k_op (lB (hs.bl d0) 0 rfl ?_))
 refine k_ite H (fun c26 H => ?_) (fun c26 H => ?_)
 ·refine st 12 [true] ?_
  refine k_retQ ?_
  obtain rfl := Option.some.inj H
  exact ⟨_, by kernel_rfl, I, _, ⟨(.iface 71 (.int .i64 5)), rfl, rfl⟩, hs.pk (.f imEC .n)⟩
 ·refine st 2 [] (k_op (lB (hs.bl d0) 0 rfl ?_))
  refine k_ite H (fun c27 H => ?_) (fun c27 H => ?_)
  ·refine st 8 [true] ?_
   refine k_retQ ?_
   obtain rfl := Option.some.inj H
   exact ⟨_, by kernel_rfl, I, _, ⟨(.iface 71 (.int .i64 5)), rfl, rfl⟩, hs.pk (.f imEC .n)⟩
  ·refine st 5 [false] ?_
   obtain ⟨j40, e70, H⟩ := letJ_some H
   refine k_join (fun ρ h => ∃ (x36 : Bool) (x37 : Bool) (x38 : Bool) (x39 : Bool) (I : Gh), j40 x36 x37 x38 x39 = some r ∧ Fits [(1, .int .i64 x1), (2, .pointer (some ⟨b25, 0, none⟩)), (5, .bool x36), (6, .bool x37), (7, .bool x38), (8, .bool x39)] ρ ∧ St E [rR (tInt .u8) .b a21 p22 x0.Text.length x0.Text, rB b25 [.int .i64 x0.Kind, .slice a21 x0.Text.length p22, .bool x0.Attr.Protected, .bool x0.Attr.Numeric, .int .i64 x0.Attr.Show, .bool x0.Attr.Modified, .int .i64 x0.Addr, .int .u8 x0.Char] 76] I h) ?_ ?_
   ·refine st 2 [] (k_op (lB (hs.bl d0) 0 rfl ?_))
    refine k_call H (fun _ m => order_has.calls m) ?_
    rintro t28 _ _ H ⟨rfl, rfl⟩
    refine st 2 [] (k_if H (fun c29 H => ?_) (fun c29 H => ?_))
    ·refine k_if H (fun c30 H => ?_) (fun c30 H => ?_)
     ·refine k_if H (fun c31 H => ?_) (fun c31 H => ?_)
      ·refine st 5 [] ?_
       exact k_end ⟨t28.1, true, true, true, I, H, ⟨by kernel_rfl, by kernel_rfl, by kernel_rfl, by kernel_rfl, by kernel_rfl, by kernel_rfl, trivial⟩, hs.pk (.c d1 (.c d0 .n))⟩
      ·refine st 5 [] ?_
       exact k_end ⟨t28.1, true, true, false, I, H, ⟨by kernel_rfl, by kernel_rfl, by kernel_rfl, by kernel_rfl, by kernel_rfl, by kernel_rfl, trivial⟩, hs.pk (.c d1 (.c d0 .n))⟩
     ·refine k_if H (fun c32 H => ?_) (fun c32 H => ?_)
      ·refine st 5 [] ?_
       exact k_end ⟨t28.1, true, false, true, I, H, ⟨by kernel_rfl, by kernel_rfl, by kernel_rfl, by kernel_rfl, by kernel_rfl, by kernel_rfl, trivial⟩, hs.pk (.c d1 (.c d0 .n))⟩
      ·refine st 5 [] ?_
       exact k_end ⟨t28.1, true, false, false, I, H, ⟨by kernel_rfl, by kernel_rfl, by kernel_rfl, by kernel_rfl, by kernel_rfl, by kernel_rfl, trivial⟩, hs.pk (.c d1 (.c d0 .n))⟩
    ·refine k_if H (fun c33 H => ?_) (fun c33 H => ?_)
     ·refine k_if H (fun c34 H => ?_) (fun c34 H => ?_)
      ·refine st 5 [] ?_
       exact k_end ⟨t28.1, false, true, true, I, H, ⟨by kernel_rfl, by kernel_rfl, by kernel_rfl, by kernel_rfl, by kernel_rfl, by kernel_rfl, trivial⟩, hs.pk (.c d1 (.c d0 .n))⟩
      ·refine st 5 [] ?_
       exact k_end ⟨t28.1, false, true, false, I, H, ⟨by kernel_rfl, by kernel_rfl, by kernel_rfl, by kernel_rfl, by kernel_rfl, by kernel_rfl, trivial⟩, hs.pk (.c d1 (.c d0 .n))⟩
     ·refine k_if H (fun c35 H => ?_) (fun c35 H => ?_)
      ·refine st 5 [] ?_
       exact k_end ⟨t28.1, false, false, true, I, H, ⟨by kernel_rfl, by kernel_rfl, by kernel_rfl, by kernel_rfl, by kernel_rfl, by kernel_rfl, trivial⟩, hs.pk (.c d1 (.c d0 .n))⟩
      ·refine st 5 [] ?_
       exact k_end ⟨t28.1, false, false, false, I, H, ⟨by kernel_rfl, by kernel_rfl, by kernel_rfl, by kernel_rfl, by kernel_rfl, by kernel_rfl, trivial⟩, hs.pk (.c d1 (.c d0 .n))⟩
   ·clear H
    rintro ρ h ⟨x36, x37, x38, x39, I, H, hf, hs⟩
    refine k_fits _ hf ?_ rfl
    subst e70
    try dsimp only at H
    refine st 3 [] (k_op (lN (hs.bl d1) 2 4 ?_))
    obtain ⟨hk, bk⟩ := hs.call tk0 .n
    refine k_call H (fun _ m => attr_Put.calls m hk) ?_
    rintro t41 _ h H ⟨I, _, ⟨v42, rfl, rfl⟩, hk⟩
    replace hs := bk hk ct1 rfl
    refine st 13 [] ?_
    obtain ⟨j47, e69, H⟩ := letJ_some H
    refine k_join (fun ρ h => ∃ (x46 : Bool) (I : Gh), j47 x46 = some r ∧ Fits [(1, .int .i64 x1), (2, .pointer (some ⟨b25, 0, none⟩)), (6, .bool x37), (7, .bool x38), (8, .bool x39), (10, v42), (11, .func (.func 104) #[] #[]), (35, .bool x46)] ρ ∧ St E [rE .i v42 t41.2, rR (tInt .u8) .b a21 p22 x0.Text.length x0.Text, rB b25 [.int .i64 x0.Kind, .slice a21 x0.Text.length p22, .bool x0.Attr.Protected, .bool x0.Attr.Numeric, .int .i64 x0.Attr.Show, .bool x0.Attr.Modified, .int .i64 x0.Addr, .int .u8 x0.Char] 76] I h) ?_ ?_
    ·refine st 3 [] (k_op (lB (hs.bl d2) 1 rfl ?_))
     refine st 2 [] (k_if H (fun c44 H => ?_) (fun c44 H => ?_))
     ·refine st 8 [] ?_
      exact k_end ⟨true, I, H, ⟨by kernel_rfl, by kernel_rfl, by kernel_rfl, by kernel_rfl, by kernel_rfl, by kernel_rfl, by kernel_rfl, by kernel_rfl, trivial⟩, hs.pk (.c d0 (.c d0 (.c d0 .n)))⟩
     ·refine st 2 [] (k_op (lB (hs.bl d2) 1 rfl ?_))
      obtain ⟨hk, bk⟩ := hs.call tk0 (.c (qB d1) .n)
      refine st 1 [] (k_call H (fun _ m => slices_ContainsFunc_bytes__order_Right_1.calls m hk) ?_)
      rintro t45 _ h H ⟨I, _, ⟨rfl, rfl⟩, hk⟩
      replace hs := bk hk ct0 rfl
      cases t45
      ·rw [cond_false] at H
       refine st 3 [] ?_
       exact k_end ⟨false, I, H, ⟨by kernel_rfl, by kernel_rfl, by kernel_rfl, by kernel_rfl, by kernel_rfl, by kernel_rfl, by kernel_rfl, by kernel_rfl, trivial⟩, hs.pk (.c d0 (.c d0 (.c d0 .n)))⟩
      ·rw [cond_true] at H
       refine st 3 [] ?_
       exact k_end ⟨true, I, H, ⟨by kernel_rfl, by kernel_rfl, by kernel_rfl, by kernel_rfl, by kernel_rfl, by kernel_rfl, by kernel_rfl, by kernel_rfl, trivial⟩, hs.pk (.c d0 (.c d0 (.c d0 .n)))⟩
    ·clear H
     rintro ρ h ⟨x46, I, H, hf, hs⟩
     refine k_fits _ hf ?_ rfl
     subst e69
     try dsimp only at H
     cases x46
     ·rw [cond_false] at H
      refine st 2 [false] ?_
      obtain ⟨j54, e68, H⟩ := letJ_some H
      refine k_join (fun ρ h => ∃ (x53 : Bool) (I : Gh), j54 x53 = some r ∧ Fits [(1, .int .i64 x1), (2, .pointer (some ⟨b25, 0, none⟩)), (7, .bool x38), (8, .bool x39), (11, .func (.func 104) #[] #[]), (49, .bool x53)] ρ ∧ St E [rR (tInt .u8) .b a21 p22 x0.Text.length x0.Text, rB b25 [.int .i64 x0.Kind, .slice a21 x0.Text.length p22, .bool x0.Attr.Protected, .bool x0.Attr.Numeric, .int .i64 x0.Attr.Show, .bool x0.Attr.Modified, .int .i64 x0.Addr, .int .u8 x0.Char] 76] I h) ?_ ?_
      ·refine st 1 [] (k_if H (fun c48 H => ?_) (fun c48 H => ?_))
       ·rcases (hs.er d0).cases with ⟨c49, rfl⟩ | ⟨c49, t50, u51, rfl⟩
        ·rw [if_pos c49] at H
         refine st 5 [] (k_val (.bool true) (pr_bool (by kernel_rfl) c48) ?_)
         refine st 10 [] ?_
         exact k_end ⟨false, I, H, ⟨by kernel_rfl, by kernel_rfl, by kernel_rfl, by kernel_rfl, by kernel_rfl, by kernel_rfl, trivial⟩, hs.pk (.c d1 (.c d1 .n))⟩
        ·rw [if_neg c49] at H
         refine st 16 [] ?_
         exact k_end ⟨true, I, H, ⟨by kernel_rfl, by kernel_rfl, by kernel_rfl, by kernel_rfl, by kernel_rfl, by kernel_rfl, trivial⟩, hs.pk (.c d1 (.c d1 .n))⟩
       ·refine st 5 [] (k_val (.bool false) (pr_bool (by kernel_rfl) c48) ?_)
        refine st 3 [] (k_op (lN (hs.bl d2) 2 4 ?_))
        rcases bool_or ((x0.Attr.Protected == false) && ((x0.Attr.Numeric == false) && ((x0.Attr.Show == 0) && ((x0.Attr.Modified == false) && true)))) with c52 | c52
        ·replace H := bif_f c52 H
         refine st 1 [] (k_op (owp_run (.bool true) (run_bool (run_neAgg (xs := #[.bool x0.Attr.Protected, .bool x0.Attr.Numeric, .int .i64 x0.Attr.Show, .bool x0.Attr.Modified]) (ys := #[.bool false, .bool false, .int .i64 0, .bool false]) (by kernel_rfl) (by kernel_rfl) (by kernel_rfl) (eqB_run (b := ((x0.Attr.Protected == false) && ((x0.Attr.Numeric == false) && ((x0.Attr.Show == 0) && ((x0.Attr.Modified == false) && true))))) (by kernel_rfl))) (notB c52)) ?_))
         refine st 4 [] ?_
         exact k_end ⟨true, I, H, ⟨by kernel_rfl, by kernel_rfl, by kernel_rfl, by kernel_rfl, by kernel_rfl, by kernel_rfl, trivial⟩, hs.pk (.c d1 (.c d1 .n))⟩
        ·replace H := bif_t c52 H
         refine st 1 [] (k_op (owp_run (.bool false) (run_bool (run_neAgg (xs := #[.bool x0.Attr.Protected, .bool x0.Attr.Numeric, .int .i64 x0.Attr.Show, .bool x0.Attr.Modified]) (ys := #[.bool false, .bool false, .int .i64 0, .bool false]) (by kernel_rfl) (by kernel_rfl) (by kernel_rfl) (eqB_run (b := ((x0.Attr.Protected == false) && ((x0.Attr.Numeric == false) && ((x0.Attr.Show == 0) && ((x0.Attr.Modified == false) && true))))) (by kernel_rfl))) (notB c52)) ?_))
         refine st 4 [] ?_
         exact k_end ⟨false, I, H, ⟨by kernel_rfl, by kernel_rfl, by kernel_rfl, by kernel_rfl, by kernel_rfl, by kernel_rfl, trivial⟩, hs.pk (.c d1 (.c d1 .n))⟩
      ·clear H
       rintro ρ h ⟨x53, I, H, hf, hs⟩
       refine k_fits _ hf ?_ rfl
       subst e68
       try dsimp only at H
       cases x53
       ·rw [cond_false] at H
        refine st 2 [false] ?_
        obtain ⟨j63, e67, H⟩ := letJ_some H
        refine k_join (fun ρ h => ∃ (x62 : Bool) (I : Gh), j63 x62 = some r ∧ Fits [(1, .int .i64 x1), (2, .pointer (some ⟨b25, 0, none⟩)), (7, .bool x38), (66, .bool x62)] ρ ∧ St E [rR (tInt .u8) .b a21 p22 x0.Text.length x0.Text, rB b25 [.int .i64 x0.Kind, .slice a21 x0.Text.length p22, .bool x0.Attr.Protected, .bool x0.Attr.Numeric, .int .i64 x0.Attr.Show, .bool x0.Attr.Modified, .int .i64 x0.Addr, .int .u8 x0.Char] 76] I h) ?_ ?_
        ·refine st 1 [] (k_if H (fun c55 H => ?_) (fun c55 H => ?_))
         ·refine st 3 [] (k_op (lB (hs.bl d1) 7 rfl ?_))
          refine k_call H (fun _ m => order_Right_1.calls m) ?_
          rintro t56 _ _ H ⟨rfl, rfl⟩
          cases t56
          ·rw [cond_false] at H
           refine st 2 [] (k_val (.bool true) (pr_bool (by kernel_rfl) c55) ?_)
           refine st 8 [] (k_if H (fun c57 H => ?_) (fun c57 H => ?_))
           ·refine st 9 [] ?_
            exact k_end ⟨false, I, H, ⟨by kernel_rfl, by kernel_rfl, by kernel_rfl, by kernel_rfl, trivial⟩, hs.pk (.c d0 (.c d0 .n))⟩
           ·refine st 3 [] (k_op (lB (hs.bl d1) 6 rfl ?_))
            refine k_iteN H (fun c58 H => ?_) (fun c58 H => ?_)
            ·refine st 4 [] ?_
             exact k_end ⟨false, I, H, ⟨by kernel_rfl, by kernel_rfl, by kernel_rfl, by kernel_rfl, trivial⟩, hs.pk (.c d0 (.c d0 .n))⟩
            ·refine st 4 [] ?_
             exact k_end ⟨true, I, H, ⟨by kernel_rfl, by kernel_rfl, by kernel_rfl, by kernel_rfl, trivial⟩, hs.pk (.c d0 (.c d0 .n))⟩
          ·rw [cond_true] at H
           refine st 21 [] ?_
           exact k_end ⟨true, I, H, ⟨by kernel_rfl, by kernel_rfl, by kernel_rfl, by kernel_rfl, trivial⟩, hs.pk (.c d0 (.c d0 .n))⟩
         ·refine st 7 [] (k_val (.bool false) (pr_bool (by kernel_rfl) c55) ?_)
          refine st 3 [] (k_op (lB (hs.bl d1) 7 rfl ?_))
          refine k_iteN H (fun c59 H => ?_) (fun c59 H => ?_)
          ·refine st 3 [] (k_if H (fun c60 H => ?_) (fun c60 H => ?_))
           ·refine st 9 [] ?_
            exact k_end ⟨false, I, H, ⟨by kernel_rfl, by kernel_rfl, by kernel_rfl, by kernel_rfl, trivial⟩, hs.pk (.c d0 (.c d0 .n))⟩
           ·refine st 3 [] (k_op (lB (hs.bl d1) 6 rfl ?_))
            refine k_iteN H (fun c61 H => ?_) (fun c61 H => ?_)
            ·refine st 4 [] ?_
             exact k_end ⟨false, I, H, ⟨by kernel_rfl, by kernel_rfl, by kernel_rfl, by kernel_rfl, trivial⟩, hs.pk (.c d0 (.c d0 .n))⟩
            ·refine st 4 [] ?_
             exact k_end ⟨true, I, H, ⟨by kernel_rfl, by kernel_rfl, by kernel_rfl, by kernel_rfl, trivial⟩, hs.pk (.c d0 (.c d0 .n))⟩
          ·refine st 13 [] ?_
           exact k_end ⟨true, I, H, ⟨by kernel_rfl, by kernel_rfl, by kernel_rfl, by kernel_rfl, trivial⟩, hs.pk (.c d0 (.c d0 .n))⟩
        ·clear H
         rintro ρ h ⟨x62, I, H, hf, hs⟩
         refine k_fits _ hf ?_ rfl
         subst e67
         try dsimp only at H
         cases x62
         ·rw [cond_false] at H
          refine st 3 [false] (k_if H (fun c64 H => ?_) (fun c64 H => ?_))
          ·refine st 2 [] (k_op (lB (hs.bl d1) 6 rfl ?_))
           refine k_ite H (fun c65 H => ?_) (fun c65 H => ?_)
           ·refine st 15 [true] ?_
            refine k_retQ ?_
            obtain rfl := Option.some.inj H
            exact ⟨_, by kernel_rfl, I, _, ⟨(.iface 71 (.int .i64 4)), rfl, rfl⟩, hs.pk (.f imEC .n)⟩
           ·refine st 2 [] (k_op (lB (hs.bl d1) 6 rfl ?_))
            refine st 1 [] (k_ite H (fun c66 H => ?_) (fun c66 H => ?_))
            ·refine st 10 [true] ?_
             refine k_retQ ?_
             obtain rfl := Option.some.inj H
             exact ⟨_, by kernel_rfl, I, _, ⟨(.iface 71 (.int .i64 4)), rfl, rfl⟩, hs.pk (.f imEC .n)⟩
            ·refine st 11 [false] ?_
             refine k_retQ ?_
             obtain rfl := Option.some.inj H
             exact ⟨_, by kernel_rfl, I, _, ⟨(.nilIface), rfl, rfl⟩, hs.pk (.f imEN .n)⟩
          ·refine st 20 [false] ?_
           refine k_retQ ?_
           obtain rfl := Option.some.inj H
           exact ⟨_, by kernel_rfl, I, _, ⟨(.nilIface), rfl, rfl⟩, hs.pk (.f imEN .n)⟩
         ·rw [cond_true] at H
          refine st 6 [true] ?_
          refine k_retQ ?_
          obtain rfl := Option.some.inj H
          exact ⟨_, by kernel_rfl, I, _, ⟨(.iface 71 (.int .i64 1)), rfl, rfl⟩, hs.pk (.f imEC .n)⟩
       ·rw [cond_true] at H
        refine st 6 [true] ?_
        refine k_retQ ?_
        obtain rfl := Option.some.inj H
        exact ⟨_, by kernel_rfl, I, _, ⟨(.iface 71 (.int .i64 1)), rfl, rfl⟩, hs.pk (.f imEC .n)⟩
     ·rw [cond_true] at H
      refine st 6 [true] ?_
      refine k_retQ ?_
      obtain rfl := Option.some.inj H
      exact ⟨_, by kernel_rfl, I, _, ⟨(.iface 71 (.int .i64 1)), rfl, rfl⟩, hs.pk (.f imEC .n)⟩

/-! shutter/order.byteOf -/
def order_byteOf.m (x0 : Int) : Option Int :=
  (if 0 ≤ x0 then (if x0 < 8 then (some (at_ [0, 0, 29, 17, 19, 5, 60, 18] x0)) else none) else none)

theorem order_byteOf.calls {x0 : Int} {h : Heap} {r : Int} (H : order_byteOf.m x0 = some r)   :
    Ret Tryz.prog 130 #[.int .i64 x0] h (fun v h' => .int .u8 r = v ∧ h' = h) := by
 unfold order_byteOf.m at H
 refine fn_of (args := [.int .i64 x0]) (rs := [.tmp 2]) (N := 6) Tryz.func130 rfl rfl rfl rfl ?_
 obtain ⟨c21, H⟩ := guard_pos H
 obtain ⟨c22, H⟩ := guard_pos H
 refine st 8 [] (k_val (.int .u8 (at_ [0, 0, 29, 17, 19, 5, 60, 18] x0)) (pr_indexAgg (e := 5) (l := [0, 0, 29, 17, 19, 5, 60, 18]) (n := 8) (kk := .i64) (by kernel_rfl) rfl (by kernel_rfl) (by kernel_rfl) (by kernel_rfl) (by kernel_rfl) c21 c22) ?_)
 refine st 2 [] ?_
 refine k_retQ ?_
 obtain rfl := Option.some.inj H
 exact ⟨_, by kernel_rfl, rfl, rfl⟩

/-! slices.Clone[[]byte,byte] -/
def slices_Clone_bytes.m (x0 : (List Int)) : Option (List Int) :=
  ((app [] x0).bind fun l29 => (some l29))

theorem slices_Clone_bytes.calls {B I : Gh} {h : Heap} {x0 : (List Int)} {a21 : Option Addr} {p22 : Nat} {n23 : Nat} {r : (List Int)} (H : slices_Clone_bytes.m x0 = some r)  :
    Fc Tryz.prog 88 #[.slice a21 n23 p22] [rR (tInt .u8) .b a21 p22 n23 x0] B I h (fun v L => ∃ (a34 : Option Addr) (p35 : Nat) (n36 : Nat), v = .slice a34 n36 p35 ∧ L = [rO (tInt .u8) .i a34 p35 n36 r]) := by
 refine fc_of fun E hs => ?_
 unfold slices_Clone_bytes.m at H
 obtain rfl := hs.nR d0
 refine fn_of (args := [.slice a21 x0.length p22]) (rs := [.tmp 2]) (N := 8) Tryz.func88 rfl rfl rfl rfl ?_
 rcases a21 with _ | ad25
 ·have e26 := ((hs.sR d0).toSl.nil rfl).1
  replace H : (some []) = some r := by simpa [app, Lim, e26] using H
  refine st 15 [true] ?_
  refine k_retQ ?_
  obtain rfl := Option.some.inj H
  exact ⟨_, by kernel_rfl, I, _, ⟨none, 0, 0, rfl, rfl⟩, hs.pk (.f imON .n)⟩
 ·refine st 14 [false] (k_op (nS (e := 5) hs .i (tInt .u8) ([] : List Int) [] 1 (.int .u8 0) (Reps.int (I := (Cl.G .i E.B I)) (k := .u8) (l := [])) ?_))
  intro b27 h hs
  obtain ⟨l29, m30, H⟩ := bind_some H
  refine st 1 [] (k_op (aO (e := 5) (bytes := 1) hs ((hs.sR d1).flat flat_int) m30 ?_))
  intro a31 p32 h hs
  refine st 2 [] ?_
  refine k_retQ ?_
  obtain rfl := Option.some.inj H
  exact ⟨_, by kernel_rfl, I, _, ⟨a31, p32, l29.length, rfl, rfl⟩, hs.pk (.c d0 .n)⟩

/-! shutter/order.Put -/
def order_Put.m (K : Nat) (x0 : api_Order) (x1 : Int) : Option ((List Int) × GoErr) :=
  ((order_Right.m K x0 x1).bind fun t26 => (if t26 = GoErr.nil then (if x0.Kind = 1 then ((slices_Clone_bytes.m x0.Text).bind fun t33 => (some (t33, GoErr.nil))) else ((order_byteOf.m x0.Kind).bind fun t38 => (letJ (α := (List Int) → Option ((List Int) × GoErr)) (fun (x75 : List Int) => (if x0.Kind = 6 then ((app x75 [x0.Char]).bind fun l84 => (some (l84, GoErr.nil))) else (some (x75, GoErr.nil)))) fun (j80 : (List Int) → Option ((List Int) × GoErr)) => (letJ (α := Bool → Option ((List Int) × GoErr)) (fun (x42 : Bool) => (bif x42 then ((attr_Put.m K x0.Attr).bind fun t44 => ((app [t38] [t44.1]).bind fun l49 => (some (l49, t44.2)))) else (letJ (α := Bool → Option ((List Int) × GoErr)) (fun (x57 : Bool) => (bif x57 then ((addr_Put.m K x0.Addr x1).bind fun t59 => (if t59.2 = GoErr.nil then ((app [t38] t59.1).bind fun l68 => (j80 l68)) else (some ([], t59.2)))) else (j80 [t38]))) fun (j58 : Bool → Option ((List Int) × GoErr)) => (if x0.Kind = 3 then (j58 true) else (if x0.Kind = 6 then (j58 true) else (if x0.Kind = 7 then (j58 true) else (j58 false))))))) fun (j43 : Bool → Option ((List Int) × GoErr)) => (if x0.Kind = 2 then (j43 true) else (j43 false)))))) else (some ([], t26))))

theorem order_Put.calls {B I : Gh} {h : Heap} {K : Nat} {x0 : api_Order} {x1 : Int} {a21 : Option Addr} {p22 : Nat} {n23 : Nat} {r : ((List Int) × GoErr)} (H : order_Put.m K x0 x1 = some r)  :
    Fc Tryz.prog 111 #[.agg #[.int .i64 x0.Kind, .slice a21 n23 p22, .bool x0.Attr.Protected, .bool x0.Attr.Numeric, .int .i64 x0.Attr.Show, .bool x0.Attr.Modified, .int .i64 x0.Addr, .int .u8 x0.Char], .int .i64 x1] [rR (tInt .u8) .b a21 p22 n23 x0.Text] B I h (fun v L => ∃ (a90 : Option Addr) (p91 : Nat) (n92 : Nat) (v94 : Value), v = .tuple #[.slice a90 n92 p91, v94] ∧ L = [rO (tInt .u8) .i a90 p91 n92 r.1, rE .i v94 r.2]) := by
 refine fc_of fun E hs => ?_
 unfold order_Put.m at H
 obtain rfl := hs.nR d0
 refine fn_of (args := [.agg #[.int .i64 x0.Kind, .slice a21 x0.Text.length p22, .bool x0.Attr.Protected, .bool x0.Attr.Numeric, .int .i64 x0.Attr.Show, .bool x0.Attr.Modified, .int .i64 x0.Addr, .int .u8 x0.Char], .int .i64 x1]) (rs := [.tmp 4, .tmp 5]) (N := 69) Tryz.func111 rfl rfl rfl rfl ?_
 refine st 2 [] (k_op (nB hs [.int .i64 x0.Kind, .slice a21 x0.Text.length p22, .bool x0.Attr.Protected, .bool x0.Attr.Numeric, .int .i64 x0.Attr.Show, .bool x0.Attr.Modified, .int .i64 x0.Addr, .int .u8 x0.Char] ?_))
 intro b25 h hs
 refine st 6 [] (k_op (lN (hs.bl d0) 0 8 ?_))
 obtain ⟨hk, bk⟩ := hs.call tk0 (.c (qB d1) .n)
 refine st 1 [] (k_call H (fun _ m => order_Right.calls m hk) ?_)
 rintro t26 v27 h H ⟨I, _, ⟨_, rfl, rfl⟩, hk⟩
 replace hs := bk hk ct1 rfl
 rcases (hs.er d0).cases with ⟨c29, rfl⟩ | ⟨c29, t30, u31, rfl⟩
 ·rw [if_pos c29] at H
  refine st 13 [false] (k_op (lB (hs.bl d1) 0 rfl ?_))
  refine k_ite H (fun c32 H => ?_) (fun c32 H => ?_)
  ·refine st 5 [true] (k_op (lB (hs.bl d1) 1 rfl ?_))
   obtain ⟨hk, bk⟩ := hs.call tk0 (.c (qB d2) .n)
   refine k_call H (fun _ m => slices_Clone_bytes.calls m hk) ?_
   rintro t33 _ h H ⟨I, _, ⟨a34, p35, n36, rfl, rfl⟩, hk⟩
   replace hs := bk hk ct1 rfl
   obtain rfl := hs.nO d0
   refine st 3 [] ?_
   refine k_retQ ?_
   obtain rfl := Option.some.inj H
   exact ⟨_, by kernel_rfl, I, _, ⟨a34, p35, t33.length, (.nilIface), rfl, rfl⟩, hs.pk (.c d0 (.f imEN .n))⟩
  ·refine st 6 [false] (k_op (lB (hs.bl d1) 0 rfl ?_))
   refine k_call H (fun _ m => order_byteOf.calls m) ?_
   rintro t38 _ _ H ⟨rfl, rfl⟩
   refine k_op (nS (e := 5) hs .i (tInt .u8) ([t38] : List Int) [.int .u8 t38] 1 (.int .u8 0) (Reps.int (I := (Cl.G .i E.B I)) (k := .u8) (l := [t38])) ?_)
   intro b39 h hs
   refine st 3 [] ?_
   obtain ⟨j80, e89, H⟩ := letJ_some H
   refine k_join (fun ρ h => ∃ (x75 : List Int) (a76 : Option Addr) (p77 : Nat) (n78 : Nat) (I : Gh), j80 x75 = some r ∧ Fits [(2, .pointer (some ⟨b25, 0, none⟩)), (7, .slice a76 n78 p77)] ρ ∧ St E [rO (tInt .u8) .i a76 p77 n78 x75, rR (tInt .u8) .b a21 p22 x0.Text.length x0.Text, rB b25 [.int .i64 x0.Kind, .slice a21 x0.Text.length p22, .bool x0.Attr.Protected, .bool x0.Attr.Numeric, .int .i64 x0.Attr.Show, .bool x0.Attr.Modified, .int .i64 x0.Addr, .int .u8 x0.Char] 76] I h) ?_ ?_
   ·refine st 3 [] (k_op (lB (hs.bl d2) 0 rfl ?_))
    refine st 3 [] ?_
    obtain ⟨j43, e74, H⟩ := letJ_some H
    refine k_join (fun ρ h => ∃ (x42 : Bool) (I : Gh), j43 x42 = some r ∧ Fits [(1, .int .i64 x1), (2, .pointer (some ⟨b25, 0, none⟩)), (7, .slice (some ⟨b39, 0, none⟩) 1 1), (29, .int .i64 x0.Kind), (30, .bool x42)] ρ ∧ St E [rO (tInt .u8) .i (some ⟨b39, 0, none⟩) 1 1 [t38], rR (tInt .u8) .b a21 p22 x0.Text.length x0.Text, rB b25 [.int .i64 x0.Kind, .slice a21 x0.Text.length p22, .bool x0.Attr.Protected, .bool x0.Attr.Numeric, .int .i64 x0.Attr.Show, .bool x0.Attr.Modified, .int .i64 x0.Addr, .int .u8 x0.Char] 76] I h) ?_ ?_
    ·refine st 1 [] (k_ite H (fun c41 H => ?_) (fun c41 H => ?_))
     ·refine st 2 [] ?_
      exact k_end ⟨true, I, H, ⟨by kernel_rfl, by kernel_rfl, by kernel_rfl, by kernel_rfl, by kernel_rfl, trivial⟩, hs.pk (.c d0 (.c d2 (.c d1 .n)))⟩
     ·refine st 2 [] ?_
      exact k_end ⟨false, I, H, ⟨by kernel_rfl, by kernel_rfl, by kernel_rfl, by kernel_rfl, by kernel_rfl, trivial⟩, hs.pk (.c d0 (.c d2 (.c d1 .n)))⟩
    ·clear H
     rintro ρ h ⟨x42, I, H, hf, hs⟩
     refine k_fits _ hf ?_ rfl
     subst e74
     try dsimp only at H
     cases x42
     ·rw [cond_false] at H
      refine st 2 [false] ?_
      obtain ⟨j58, e73, H⟩ := letJ_some H
      refine k_join (fun ρ h => ∃ (x57 : Bool) (I : Gh), j58 x57 = some r ∧ Fits [(1, .int .i64 x1), (2, .pointer (some ⟨b25, 0, none⟩)), (7, .slice (some ⟨b39, 0, none⟩) 1 1), (43, .bool x57)] ρ ∧ St E [rO (tInt .u8) .i (some ⟨b39, 0, none⟩) 1 1 [t38], rR (tInt .u8) .b a21 p22 x0.Text.length x0.Text, rB b25 [.int .i64 x0.Kind, .slice a21 x0.Text.length p22, .bool x0.Attr.Protected, .bool x0.Attr.Numeric, .int .i64 x0.Attr.Show, .bool x0.Attr.Modified, .int .i64 x0.Addr, .int .u8 x0.Char] 76] I h) ?_ ?_
      ·refine st 2 [] (k_ite H (fun c54 H => ?_) (fun c54 H => ?_))
       ·refine st 4 [true] ?_
        exact k_end ⟨true, I, H, ⟨by kernel_rfl, by kernel_rfl, by kernel_rfl, by kernel_rfl, trivial⟩, hs.pk (.c d0 (.c d0 (.c d0 .n)))⟩
       ·refine st 5 [false] (k_ite H (fun c55 H => ?_) (fun c55 H => ?_))
        ·refine st 4 [true] ?_
         exact k_end ⟨true, I, H, ⟨by kernel_rfl, by kernel_rfl, by kernel_rfl, by kernel_rfl, trivial⟩, hs.pk (.c d0 (.c d0 (.c d0 .n)))⟩
        ·refine st 4 [false] (k_ite H (fun c56 H => ?_) (fun c56 H => ?_))
         ·refine st 2 [] ?_
          exact k_end ⟨true, I, H, ⟨by kernel_rfl, by kernel_rfl, by kernel_rfl, by kernel_rfl, trivial⟩, hs.pk (.c d0 (.c d0 (.c d0 .n)))⟩
         ·refine st 2 [] ?_
          exact k_end ⟨false, I, H, ⟨by kernel_rfl, by kernel_rfl, by kernel_rfl, by kernel_rfl, trivial⟩, hs.pk (.c d0 (.c d0 (.c d0 .n)))⟩
      ·clear H
       rintro ρ h ⟨x57, I, H, hf, hs⟩
       refine k_fits _ hf ?_ rfl
       subst e73
       try dsimp only at H
       cases x57
       ·rw [cond_false] at H
        refine st 3 [false] ?_
        exact k_end ⟨[t38], (some ⟨b39, 0, none⟩), 1, 1, I, H, ⟨by kernel_rfl, by kernel_rfl, trivial⟩, hs.pk (.c d0 (.c d0 (.c d0 .n)))⟩
       ·rw [cond_true] at H
        refine st 4 [true] (k_op (lB (hs.bl d2) 6 rfl ?_))
        obtain ⟨hk, bk⟩ := hs.call tk0 .n
        refine st 1 [] (k_call H (fun _ m => addr_Put.calls m hk) ?_)
        rintro t59 _ h H ⟨I, _, ⟨v61, rfl, rfl, hl60⟩, hk⟩
        replace hs := bk hk ct1 rfl
        refine st 3 [] (k_op (nA hs (List.map (Value.int .u8) (List.replicate 2 (0 : Int))) (.agg (List.map (Value.int .u8) (List.replicate 2 (0 : Int))).toArray) ?_))
        intro b63 h hs
        refine k_op (sAN (l2 := t59.1) hs (List.length_replicate (n := 2) (a := (0 : Int))) hl60 ?_)
        intro h hs
        rcases (hs.er d1).cases with ⟨c64, rfl⟩ | ⟨c64, t65, u66, rfl⟩
        ·rw [if_pos c64] at H
         obtain ⟨I, hs⟩ := hs.fA hl60
         replace hs := (hs.f d2)
         obtain ⟨l68, m69, H⟩ := bind_some H
         refine st 13 [false] (k_op (aO (e := 5) (bytes := 1) hs (hs.sR d1) m69 ?_))
         intro a70 p71 h hs
         refine st 3 [] ?_
         exact k_end ⟨l68, a70, p71, l68.length, I, H, ⟨by kernel_rfl, by kernel_rfl, trivial⟩, hs.pk (.c d0 (.c d2 (.c d2 .n)))⟩
        ·rw [if_neg c64] at H
         refine st 15 [true] ?_
         refine k_retQ (krJ ?_)
         obtain rfl := Option.some.inj H
         exact ⟨_, by kernel_rfl, I, _, ⟨none, 0, 0, ((.iface t65 u66)), rfl, rfl⟩, hs.pk (.f imON (.c d1 .n))⟩
     ·rw [cond_true] at H
      refine st 4 [true] (k_op (lN (hs.bl d2) 2 4 ?_))
      obtain ⟨hk, bk⟩ := hs.call tk0 .n
      refine k_call H (fun _ m => attr_Put.calls m hk) ?_
      rintro t44 _ h H ⟨I, _, ⟨v45, rfl, rfl⟩, hk⟩
      replace hs := bk hk ct1 rfl
      refine st 10 [] (k_op (nS (e := 5) hs .i (tInt .u8) ([t44.1] : List Int) [.int .u8 t44.1] 1 (.int .u8 0) (Reps.int (I := (Cl.G .i E.B I)) (k := .u8) (l := [t44.1])) ?_))
      intro b47 h hs
      replace hs := (hs.f d2)
      obtain ⟨l49, m50, H⟩ := bind_some H
      refine k_op (aO (e := 5) (bytes := 1) hs (hs.sO d1) m50 ?_)
      intro a51 p52 h hs
      refine st 4 [] ?_
      refine k_retQ (krJ ?_)
      obtain rfl := Option.some.inj H
      exact ⟨_, by kernel_rfl, I, _, ⟨a51, p52, l49.length, (v45), rfl, rfl⟩, hs.pk (.c d0 (.c d1 .n))⟩
   ·clear H
    rintro ρ h ⟨x75, a76, p77, n78, I, H, hf, hs⟩
    refine k_fits _ hf ?_ rfl
    subst e89
    try dsimp only at H
    obtain rfl := hs.nO d0
    refine st 4 [] (k_op (lB (hs.bl d2) 0 rfl ?_))
    refine k_ite H (fun c81 H => ?_) (fun c81 H => ?_)
    ·refine st 5 [true] (k_op (lB (hs.bl d2) 7 rfl ?_))
     refine k_op (nS (e := 5) hs .i (tInt .u8) ([x0.Char] : List Int) [.int .u8 x0.Char] 1 (.int .u8 0) (Reps.int (I := (Cl.G .i E.B I)) (k := .u8) (l := [x0.Char])) ?_)
     intro b82 h hs
     replace hs := (hs.f d1)
     obtain ⟨l84, m85, H⟩ := bind_some H
     refine k_op (aO (e := 5) (bytes := 1) hs (hs.sO d1) m85 ?_)
     intro a86 p87 h hs
     refine st 8 [] ?_
     refine k_retQ ?_
     obtain rfl := Option.some.inj H
     exact ⟨_, by kernel_rfl, I, _, ⟨a86, p87, l84.length, (.nilIface), rfl, rfl⟩, hs.pk (.c d0 (.f imEN .n))⟩
    ·refine st 9 [false] ?_
     refine k_retQ ?_
     obtain rfl := Option.some.inj H
     exact ⟨_, by kernel_rfl, I, _, ⟨a76, p77, x75.length, (.nilIface), rfl, rfl⟩, hs.pk (.c d0 (.f imEN .n))⟩
 ·rw [if_neg c29] at H
  refine st 14 [true] ?_
  refine k_retQ ?_
  obtain rfl := Option.some.inj H
  exact ⟨_, by kernel_rfl, I, _, ⟨none, 0, 0, ((.iface t30 u31)), rfl, rfl⟩, hs.pk (.f imON (.c d0 .n))⟩

/-! shutter/stream.orders -/
def stream_orders.l1.m (K : Nat) (x0 : (List api_Order)) (x1 : Int) : Nat → (List Int) → Int → Option (((List Int) × GoErr) ⊕ ((List Int)))
  | 0, _, _ => none
  | k + 1, x25, x30 => (letJ (α := Bool → Option (((List Int) × GoErr) ⊕ ((List Int)))) (fun (x40 : Bool) => (bif x40 then (if 0 ≤ x30 then (if x30 < (x0.length : Int) then ((order_Put.m K (⟨(at_ x0 x30).Kind, (at_ x0 x30).Text, ((at_ x0 x30).Attr), (at_ x0 x30).Addr, (at_ x0 x30).Char⟩ : api_Order) x1).bind fun t53 => (letJ (α := GoErr → Option (((List Int) × GoErr) ⊕ ((List Int)))) (fun (x76 : GoErr) => (if x76 = GoErr.nil then ((app x25 t53.1).bind fun l83 => (stream_orders.l1.m K x0 x1 k l83 (w64 (x30 + 1)))) else ((stream_spot.m x30 x76).bind fun t88 => (some (Sum.inl ([], t88)))))) fun (j79 : GoErr → Option (((List Int) × GoErr) ⊕ ((List Int)))) => (if t53.2 = GoErr.nil then (if x30 > 0 then (if (at_ x0 x30).Kind = 1 then (if 0 ≤ (w64 (x30 - 1)) then (if (w64 (x30 - 1)) < (x0.length : Int) then (if (at_ x0 (w64 (x30 - 1))).Kind = 1 then (j79 (GoErr.no 1)) else (j79 t53.2)) else none) else none) else (j79 t53.2)) else (j79 t53.2)) else (j79 t53.2)))) else none) else none) else (some (Sum.inr x25)))) fun (j41 : Bool → Option (((List Int) × GoErr) ⊕ ((List Int)))) => (if x30 < (x0.length : Int) then (j41 true) else (j41 false)))
def stream_orders.m (K : Nat) (x0 : (List api_Order)) (x1 : Int) : Option ((List Int) × GoErr) :=
  ((stream_orders.l1.m K x0 x1 K [] 0).bind fun s31 => match s31 with | .inl q => (some q) | .inr x32 => (some (x32, GoErr.nil)))

theorem stream_orders.calls {B I : Gh} {h : Heap} {K : Nat} {x0 : (List api_Order)} {x1 : Int} {a21 : Option Addr} {p22 : Nat} {n23 : Nat} {r : ((List Int) × GoErr)} (H : stream_orders.m K x0 x1 = some r)  :
    Fc Tryz.prog 72 #[.slice a21 n23 p22, .int .i64 x1] [rR t_api_Order .b a21 p22 n23 x0] B I h (fun v L => ∃ (a93 : Option Addr) (p94 : Nat) (n95 : Nat) (v97 : Value), v = .tuple #[.slice a93 n95 p94, v97] ∧ L = [rO (tInt .u8) .i a93 p94 n95 r.1, rE .i v97 r.2]) := by
 refine fc_of fun E hs => ?_
 unfold stream_orders.m at H
 obtain rfl := hs.nR d0
 refine fn_of (args := [.slice a21 x0.length p22, .int .i64 x1]) (rs := [.tmp 4, .tmp 5]) (N := 55) Tryz.func72 rfl rfl rfl rfl ?_
 refine st 17 [] ?_
 obtain ⟨s31, m38, HR37⟩ := bind_some H
 refine k_loop 0 (fun k' ρ h => ∃ (x25 : List Int) (x30 : Int) (a26 : Option Addr) (p27 : Nat) (n28 : Nat) (I : Gh), stream_orders.l1.m K x0 x1 k' x25 x30 = some s31 ∧ Fits [(0, .slice a21 x0.length p22), (1, .int .i64 x1), (6, .slice a26 n28 p27), (11, .slice a21 x0.length p22), (12, .int .i64 (x0.length : Int)), (13, .int .i64 x30)] ρ ∧ St E [rR t_api_Order .b a21 p22 x0.length x0, rO (tInt .u8) .i a26 p27 n28 x25] I h) (fun ρ h => ∃ (x32 : List Int) (a33 : Option Addr) (p34 : Nat) (n35 : Nat) (I : Gh), Sum.inr x32 = s31 ∧ Fits [(6, .slice a33 n35 p34)] ρ ∧ St E [rO (tInt .u8) .i a33 p34 n35 x32] I h) K ⟨[], 0, none, 0, 0, I, m38, ⟨by kernel_rfl, by kernel_rfl, by kernel_rfl, by kernel_rfl, by kernel_rfl, by kernel_rfl, trivial⟩, hs.pk (.c d0 (.f imON .n))⟩ ?_ rfl ?_
 ·clear m38 H
  rintro k' ρ h ⟨x25, x30, a26, p27, n28, I, H, hf, hs⟩
  cases k' with
  | zero => cases H
  | succ k =>
   rw [stream_orders.l1.m] at H
   refine k_fits _ hf ?_ rfl
   obtain rfl := hs.nO d1
   refine st 1 [] ?_
   obtain ⟨j41, e92, H⟩ := letJ_some H
   refine k_join (fun ρ h => ∃ (x40 : Bool) (I : Gh), j41 x40 = some s31 ∧ Fits [(0, .slice a21 x0.length p22), (1, .int .i64 x1), (6, .slice a26 x25.length p27), (11, .slice a21 x0.length p22), (12, .int .i64 (x0.length : Int)), (13, .int .i64 x30), (14, .bool x40)] ρ ∧ St E [rR t_api_Order .b a21 p22 x0.length x0, rO (tInt .u8) .i a26 p27 x25.length x25] I h) ?_ ?_
   ·refine st 1 [] (k_ite H (fun c39 H => ?_) (fun c39 H => ?_))
    ·refine st 1 [] ?_
     exact k_end ⟨true, I, H, ⟨by kernel_rfl, by kernel_rfl, by kernel_rfl, by kernel_rfl, by kernel_rfl, by kernel_rfl, by kernel_rfl, trivial⟩, hs.pk (.c d0 (.c d0 .n))⟩
    ·refine st 1 [] ?_
     exact k_end ⟨false, I, H, ⟨by kernel_rfl, by kernel_rfl, by kernel_rfl, by kernel_rfl, by kernel_rfl, by kernel_rfl, by kernel_rfl, trivial⟩, hs.pk (.c d0 (.c d0 .n))⟩
   ·clear H
    rintro ρ h ⟨x40, I, H, hf, hs⟩
    refine k_fits _ hf ?_ rfl
    subst e92
    try dsimp only at H
    cases x40
    ·rw [cond_false] at H
     refine st 2 [false] ?_
     refine k_out rfl ?_
     obtain rfl := Option.some.inj H
     exact xE ⟨x25, a26, p27, x25.length, I, rfl, ⟨by kernel_rfl, trivial⟩, hs.pk (.c d1 .n)⟩
    ·rw [cond_true] at H
     obtain ⟨c42, H⟩ := guard_pos H
     obtain ⟨c43, H⟩ := guard_pos H
     refine st 8 [true] (k_val (elemPtr a21 (x30.toNat * 8)) (pI (e := 76) (ik := .i64) (hs.sR d0) c42 c43) ?_)
     obtain ⟨y45, g44, q46⟩ := (hs.sR d0).toSl.seg c42 c43
     obtain ⟨a47, p48, n49, rfl, q51⟩ := t_api_Order.open_ q46
     obtain rfl := q51.2
     replace hs := hs.pR q51
     refine k_op (lG g44 ?_)
     refine k_op (nA hs [.int .i64 0, .slice none 0 0, .bool false, .bool false, .int .i64 0, .bool false, .int .i64 0, .int .u8 0] (.agg #[.int .i64 0, .slice none 0 0, .bool false, .bool false, .int .i64 0, .bool false, .int .i64 0, .int .u8 0]) ?_)
     intro b52 h hs
     refine st 1 [] (k_op (sN hs 0 [.int .i64 ((at_ x0 x30).Kind), .slice a47 (((at_ x0 x30).Text).length) p48, .bool (((at_ x0 x30).Attr).Protected), .bool (((at_ x0 x30).Attr).Numeric), .int .i64 (((at_ x0 x30).Attr).Show), .bool (((at_ x0 x30).Attr).Modified), .int .i64 ((at_ x0 x30).Addr), .int .u8 ((at_ x0 x30).Char)] [.int .i64 ((at_ x0 x30).Kind), .slice a47 (((at_ x0 x30).Text).length) p48, .bool (((at_ x0 x30).Attr).Protected), .bool (((at_ x0 x30).Attr).Numeric), .int .i64 (((at_ x0 x30).Attr).Show), .bool (((at_ x0 x30).Attr).Modified), .int .i64 ((at_ x0 x30).Addr), .int .u8 ((at_ x0 x30).Char)] (ones_of rfl) ?_))
     intro h hs
     refine st 3 [] (k_op (lN (hs.bl d0) 0 8 ?_))
     obtain ⟨hk, bk⟩ := hs.call tk0 (.c (qB d1) .n)
     refine st 1 [] (k_call H (fun _ m => order_Put.calls m hk) ?_)
     rintro t53 _ h H ⟨I, _, ⟨a54, p55, n56, v58, rfl, rfl⟩, hk⟩
     replace hs := bk hk ct2 rfl
     obtain rfl := hs.nO d0
     refine st 7 [] ?_
     obtain ⟨j79, e91, H⟩ := letJ_some H
     refine k_join (fun ρ h => ∃ (x76 : GoErr) (v77 : Value) (I : Gh), j79 x76 = some s31 ∧ Fits [(0, .slice a21 x0.length p22), (1, .int .i64 x1), (6, .slice a26 x25.length p27), (7, .int .i64 x30), (9, .slice a54 t53.1.length p55), (10, v77), (11, .slice a21 x0.length p22), (12, .int .i64 (x0.length : Int)), (13, .int .i64 x30)] ρ ∧ St E [rR t_api_Order .b a21 p22 x0.length x0, rO (tInt .u8) .i a26 p27 x25.length x25, rO (tInt .u8) .i a54 p55 t53.1.length t53.1, rE .i v77 x76] I h) ?_ ?_
     ·rcases (hs.er d1).cases with ⟨c60, rfl⟩ | ⟨c60, t61, u62, rfl⟩
      ·rw [if_pos c60] at H
       refine st 6 [] (k_ite H (fun c63 H => ?_) (fun c63 H => ?_))
       ·refine st 3 [] (k_op (lB (hs.bl d2) 0 rfl ?_))
        refine k_ite H (fun c64 H => ?_) (fun c64 H => ?_)
        ·obtain ⟨c65, H⟩ := guard_pos H
         obtain ⟨c66, H⟩ := guard_pos H
         refine st 5 [] (k_val (elemPtr a21 ((w64 (x30 - 1)).toNat * 8)) (pI (e := 76) (ik := .i64) (hs.sR d4) c65 c66) ?_)
         refine k_val (elemPtr a21 ((w64 (x30 - 1)).toNat * 8 + 0)) (pF (off := 0) (hs.sR d4) c65 c66) ?_
         obtain ⟨y68, g67, q69⟩ := (hs.sR d4).toSl.seg c65 c66
         obtain ⟨a70, p71, n72, rfl, q74⟩ := t_api_Order.open_ q69
         obtain rfl := q74.2
         replace hs := hs.pR q74
         refine k_op (lC (seg_cell (f := 0) g67 rfl) ?_)
         refine k_ite H (fun c75 H => ?_) (fun c75 H => ?_)
         ·refine st 7 [true] ?_
          exact k_end ⟨(GoErr.no 1), .iface 71 (.int .i64 1), I, H, ⟨by kernel_rfl, by kernel_rfl, by kernel_rfl, by kernel_rfl, by kernel_rfl, by kernel_rfl, by kernel_rfl, by kernel_rfl, by kernel_rfl, trivial⟩, hs.pk (.c d5 (.c d5 (.c d1 (.f imEC .n))))⟩
         ·refine st 4 [false] ?_
          exact k_end ⟨t53.2, .nilIface, I, H, ⟨by kernel_rfl, by kernel_rfl, by kernel_rfl, by kernel_rfl, by kernel_rfl, by kernel_rfl, by kernel_rfl, by kernel_rfl, by kernel_rfl, trivial⟩, hs.pk (.c d5 (.c d5 (.c d1 (.c d1 .n))))⟩
        ·refine st 13 [false] ?_
         exact k_end ⟨t53.2, .nilIface, I, H, ⟨by kernel_rfl, by kernel_rfl, by kernel_rfl, by kernel_rfl, by kernel_rfl, by kernel_rfl, by kernel_rfl, by kernel_rfl, by kernel_rfl, trivial⟩, hs.pk (.c d4 (.c d4 (.c d0 (.c d0 .n))))⟩
       ·refine st 18 [false] ?_
        exact k_end ⟨t53.2, .nilIface, I, H, ⟨by kernel_rfl, by kernel_rfl, by kernel_rfl, by kernel_rfl, by kernel_rfl, by kernel_rfl, by kernel_rfl, by kernel_rfl, by kernel_rfl, trivial⟩, hs.pk (.c d4 (.c d4 (.c d0 (.c d0 .n))))⟩
      ·rw [if_neg c60] at H
       refine st 25 [false] ?_
       exact k_end ⟨t53.2, (.iface t61 u62), I, H, ⟨by kernel_rfl, by kernel_rfl, by kernel_rfl, by kernel_rfl, by kernel_rfl, by kernel_rfl, by kernel_rfl, by kernel_rfl, by kernel_rfl, trivial⟩, hs.pk (.c d4 (.c d4 (.c d0 (.c d0 .n))))⟩
     ·clear H
      rintro ρ h ⟨x76, v77, I, H, hf, hs⟩
      refine k_fits _ hf ?_ rfl
      subst e91
      try dsimp only at H
      rcases (hs.er d3).cases with ⟨c80, rfl⟩ | ⟨c80, t81, u82, rfl⟩
      ·rw [if_pos c80] at H
       replace hs := (hs.f d1)
       obtain ⟨l83, m84, H⟩ := bind_some H
       refine st 11 [false] (k_op (aO (e := 5) (bytes := 1) hs (hs.sO d2) m84 ?_))
       intro a85 p86 h hs
       refine st 7 [] ?_
       exact k_endL ⟨k, Nat.lt_succ_self _, l83, (w64 (x30 + 1)), a85, p86, l83.length, I, H, ⟨by kernel_rfl, by kernel_rfl, by kernel_rfl, by kernel_rfl, by kernel_rfl, by kernel_rfl, trivial⟩, hs.pk (.c d1 (.c d0 .n))⟩
      ·rw [if_neg c80] at H
       obtain ⟨hk, bk⟩ := hs.call tk0 (.c (xK d3) .n)
       refine st 11 [true] (k_call H (fun _ m => stream_spot.calls m hk) ?_)
       rintro t88 v89 h H ⟨I, _, ⟨_, rfl, rfl⟩, hk⟩
       replace hs := bk hk ct1 rfl
       refine st 3 [] ?_
       refine k_retQ (krL ?_)
       obtain rfl := Option.some.inj H
       obtain rfl := Option.some.inj HR37
       exact ⟨_, by kernel_rfl, I, _, ⟨none, 0, 0, (v89), rfl, rfl⟩, hs.pk (.f imON (.c d0 .n))⟩
 ·rintro ρ h ⟨x32, a33, p34, n35, I, rfl, hf, hs⟩
  have H := HR37
  try dsimp only at H
  refine k_fits _ hf ?_ rfl
  obtain rfl := hs.nO d0
  refine st 6 [] ?_
  refine k_retQ ?_
  obtain rfl := Option.some.inj H
  exact ⟨_, by kernel_rfl, I, _, ⟨a33, p34, x32.length, (.nilIface), rfl, rfl⟩, hs.pk (.c d0 (.f imEN .n))⟩

/-! shutter/attr.PutWcc -/
def attr_PutWcc.m (K : Nat) (x0 : api_Wcc) : Option Int :=
  ((attr_bit.m x0.Alarm 4).bind fun t22 => ((attr_bit.m x0.Unlock 2).bind fun t23 => ((attr_bit.m x0.Reset 1).bind fun t24 => ((attr_sum.m K [t22, t23, t24]).bind fun t27 => ((six_Put.m t27).bind fun t28 => (some t28.1))))))

theorem attr_PutWcc.calls {B I : Gh} {h : Heap} {K : Nat} {x0 : api_Wcc} {r : Int} (H : attr_PutWcc.m K x0 = some r)  :
    Fc Tryz.prog 73 #[.agg #[.bool x0.Alarm, .bool x0.Unlock, .bool x0.Reset]] [] B I h (fun v L => v = .int .u8 r ∧ L = []) := by
 refine fc_of fun E hs => ?_
 unfold attr_PutWcc.m at H
 refine fn_of (args := [.agg #[.bool x0.Alarm, .bool x0.Unlock, .bool x0.Reset]]) (rs := [.tmp 2]) (N := 21) Tryz.func73 rfl rfl rfl rfl ?_
 refine st 2 [] (k_op (nB hs [.bool x0.Alarm, .bool x0.Unlock, .bool x0.Reset] ?_))
 intro b21 h hs
 refine st 3 [] ?_
 obtain ⟨hs0, bk0⟩ := hs.call tk0 (.c (qL d0) .n)
 have hs := hs0
 refine k_regD hs0 17 ?_
 refine aRun [0] 16 hs.keep ?_
 refine aL 1 rfl hs.keep (ll hs0 d0 (n := 0) rfl) (nmL hs0 d0) ?_
 refine aRun [3] 14 hs.keep ?_
 refine aL 4 rfl hs.keep (ll hs0 d0 (n := 1) rfl) (nmL hs0 d0) ?_
 refine aRun [6] 12 hs.keep ?_
 refine aL 7 rfl hs.keep (ll hs0 d0 (n := 2) rfl) (nmL hs0 d0) ?_
 obtain ⟨hk, bk⟩ := hs.call tk0 .n
 refine aO1 2 rfl (o_call H (fun _ m => attr_bit.calls m hk) ?_)
 rintro t22 _ h H ⟨I, _, ⟨rfl, rfl⟩, hk⟩
 replace hs := bk hk ct0 rfl
 refine ⟨hs.keep, ?_⟩
 obtain ⟨hk, bk⟩ := hs.call tk0 .n
 refine aO1 5 rfl (o_call H (fun _ m => attr_bit.calls m hk) ?_)
 rintro t23 _ h H ⟨I, _, ⟨rfl, rfl⟩, hk⟩
 replace hs := bk hk ct0 rfl
 refine ⟨hs.keep, ?_⟩
 obtain ⟨hk, bk⟩ := hs.call tk0 .n
 refine aO1 8 rfl (o_call H (fun _ m => attr_bit.calls m hk) ?_)
 rintro t24 _ h H ⟨I, _, ⟨rfl, rfl⟩, hk⟩
 replace hs := bk hk ct0 rfl
 refine ⟨hs.keep, ?_⟩
 refine aO1 9 rfl (nS (e := 166) hs .i t_Anon_is_n ([t22, t23, t24] : List Anon_is_n) [.bool t22.is', .int .i64 t22.n', .bool t23.is', .int .i64 t23.n', .bool t24.is', .int .i64 t24.n'] 2 (.agg #[.bool false, .int .i64 0]) (Reps.cons (T := t_Anon_is_n) (c := [.bool t22.is', .int .i64 t22.n']) (x := t22) rfl (Reps.cons (T := t_Anon_is_n) (c := [.bool t23.is', .int .i64 t23.n']) (x := t23) rfl (Reps.cons (T := t_Anon_is_n) (c := [.bool t24.is', .int .i64 t24.n']) (x := t24) rfl (.nil : Reps t_Anon_is_n (Cl.G .i E.B I) h [] [])))) ?_)
 intro b25 h hs
 refine ⟨hs.keep, ?_⟩
 obtain ⟨hk, bk⟩ := hs.call tk0 (.c (qO d0) .n)
 refine aO1 10 rfl (o_call H (fun _ m => attr_sum.calls m hk) ?_)
 rintro t27 _ h H ⟨I, _, ⟨rfl, rfl⟩, hk⟩
 replace hs := bk hk ct0 rfl
 refine ⟨hs.keep, ?_⟩
 obtain ⟨hk, bk⟩ := hs.call tk0 .n
 refine aO1 11 rfl (o_call H (fun _ m => six_Put.calls m hk) ?_)
 rintro t28 _ h H ⟨I, _, ⟨v29, rfl, rfl⟩, hk⟩
 replace hs := bk hk ct1 rfl
 refine ⟨hs.keep, ?_⟩
 refine aRun [12, 13, 14, 15, 16] 0 hs.keep ?_
 replace hs := hs.pk (.c d0 (.c d0 .n))
 replace hs := bk0 hs ct2 rfl
 refine aEnd ?_
 refine st 5 [] ?_
 refine k_retQ ?_
 obtain rfl := Option.some.inj H
 exact ⟨_, by kernel_rfl, I, _, ⟨rfl, rfl⟩, hs.pk .n⟩

/-! shutter/stream.known -/
def stream_known.m (x0 : Int) : Option Bool :=
  (if x0 = 241 then (some true) else (if x0 = 245 then (some true) else (if x0 = 111 then (some true) else (if x0 = 242 then (some true) else (if x0 = 246 then (some true) else (some false))))))

theorem stream_known.calls {x0 : Int} {h : Heap} {r : Bool} (H : stream_known.m x0 = some r)   :
    Ret Tryz.prog 62 #[.int .i64 x0] h (fun v h' => .bool r = v ∧ h' = h) := by
 unfold stream_known.m at H
 refine fn_of (args := [.int .i64 x0]) (rs := [.tmp 2]) (N := 12) Tryz.func62 rfl rfl rfl rfl ?_
 refine st 19 [] (k_ite H (fun c21 H => ?_) (fun c21 H => ?_))
 ·refine st 13 [true, true] ?_
  refine k_retQ ?_
  obtain rfl := Option.some.inj H
  exact ⟨_, by kernel_rfl, rfl, rfl⟩
 ·refine st 4 [false] (k_ite H (fun c22 H => ?_) (fun c22 H => ?_))
  ·refine st 11 [true] ?_
   refine k_retQ ?_
   obtain rfl := Option.some.inj H
   exact ⟨_, by kernel_rfl, rfl, rfl⟩
  ·refine st 7 [false] (k_ite H (fun c23 H => ?_) (fun c23 H => ?_))
   ·refine st 10 [true] ?_
    refine k_retQ ?_
    obtain rfl := Option.some.inj H
    exact ⟨_, by kernel_rfl, rfl, rfl⟩
   ·refine st 7 [false] (k_ite H (fun c24 H => ?_) (fun c24 H => ?_))
    ·refine st 11 [true, true] ?_
     refine k_retQ ?_
     obtain rfl := Option.some.inj H
     exact ⟨_, by kernel_rfl, rfl, rfl⟩
    ·refine st 4 [false] (k_ite H (fun c25 H => ?_) (fun c25 H => ?_))
     ·refine st 9 [true] ?_
      refine k_retQ ?_
      obtain rfl := Option.some.inj H
      exact ⟨_, by kernel_rfl, rfl, rfl⟩
     ·refine st 9 [false] ?_
      refine k_retQ ?_
      obtain rfl := Option.some.inj H
      exact ⟨_, by kernel_rfl, rfl, rfl⟩

/-! shutter/stream.Writes -/
def stream_Writes.m (x0 : Int) : Option Bool :=
  (if x0 = 241 then (some true) else (some (x0 == 245)))

theorem stream_Writes.calls {x0 : Int} {h : Heap} {r : Bool} (H : stream_Writes.m x0 = some r)   :
    Ret Tryz.prog 63 #[.int .i64 x0] h (fun v h' => .bool r = v ∧ h' = h) := by
 unfold stream_Writes.m at H
 refine fn_of (args := [.int .i64 x0]) (rs := [.tmp 2]) (N := 9) Tryz.func63 rfl rfl rfl rfl ?_
 refine st 7 [] (k_ite H (fun c21 H => ?_) (fun c21 H => ?_))
 ·refine st 6 [] ?_
  refine k_retQ ?_
  obtain rfl := Option.some.inj H
  exact ⟨_, by kernel_rfl, rfl, rfl⟩
 ·refine st 6 [] ?_
  refine k_retQ ?_
  obtain rfl := Option.some.inj H
  exact ⟨_, by kernel_rfl, rfl, rfl⟩

/-! shutter/stream.Write -/
def stream_Write.m (K : Nat) (x0 : api_Out) (x1 : Int) : Option ((List Int) × GoErr) :=
  ((stream_known.m x0.Cmd).bind fun t26 => bif t26 then (letJ (α := Bool → Option ((List Int) × GoErr)) (fun (x30 : Bool) => (bif x30 then (bif ((x0.Wcc.Alarm == false) && ((x0.Wcc.Unlock == false) && ((x0.Wcc.Reset == false) && true))) then (if (x0.Orders.length : Int) > 0 then (some ([], (GoErr.no 1))) else (some ([(IntKind.u8.wrap (x0.Cmd))], GoErr.nil))) else (some ([], (GoErr.no 1)))) else ((stream_orders.m K x0.Orders x1).bind fun t34 => (if t34.2 = GoErr.nil then ((attr_PutWcc.m K x0.Wcc).bind fun t44 => ((app [(IntKind.u8.wrap (x0.Cmd))] [t44]).bind fun l47 => ((app l47 t34.1).bind fun l52 => (if (l52.length : Int) > 8192 then (some ([], (GoErr.no 6))) else (some (l52, GoErr.nil)))))) else (some ([], t34.2)))))) fun (j31 : Bool → Option ((List Int) × GoErr)) => ((stream_Writes.m x0.Cmd).bind fun t29 => bif t29 then (j31 false) else (j31 true))) else (some ([], (GoErr.no 5))))

theorem stream_Write.calls {B I : Gh} {h : Heap} {K : Nat} {x0 : api_Out} {x1 : Int} {a21 : Option Addr} {p22 : Nat} {n23 : Nat} {r : ((List Int) × GoErr)} (H : stream_Write.m K x0 x1 = some r)  :
    Fc Tryz.prog 29 #[.agg #[.int .i64 x0.Cmd, .bool x0.Wcc.Alarm, .bool x0.Wcc.Unlock, .bool x0.Wcc.Reset, .slice a21 n23 p22], .int .i64 x1] [rR t_api_Order .b a21 p22 n23 x0.Orders] B I h (fun v L => ∃ (a59 : Option Addr) (p60 : Nat) (n61 : Nat) (v63 : Value), v = .tuple #[.slice a59 n61 p60, v63] ∧ L = [rO (tInt .u8) .i a59 p60 n61 r.1, rE .i v63 r.2]) := by
 refine fc_of fun E hs => ?_
 unfold stream_Write.m at H
 obtain rfl := hs.nR d0
 refine fn_of (args := [.agg #[.int .i64 x0.Cmd, .bool x0.Wcc.Alarm, .bool x0.Wcc.Unlock, .bool x0.Wcc.Reset, .slice a21 x0.Orders.length p22], .int .i64 x1]) (rs := [.tmp 4, .tmp 5]) (N := 57) Tryz.func29 rfl rfl rfl rfl ?_
 refine st 2 [] (k_op (nB hs [.int .i64 x0.Cmd, .bool x0.Wcc.Alarm, .bool x0.Wcc.Unlock, .bool x0.Wcc.Reset, .slice a21 x0.Orders.length p22] ?_))
 intro b25 h hs
 refine st 7 [] (k_op (lB (hs.bl d0) 0 rfl ?_))
 refine k_call H (fun _ m => stream_known.calls m) ?_
 rintro t26 _ _ H ⟨rfl, rfl⟩
 cases t26
 ·rw [cond_false] at H
  refine st 9 [true] ?_
  refine k_retQ ?_
  obtain rfl := Option.some.inj H
  exact ⟨_, by kernel_rfl, I, _, ⟨none, 0, 0, (.iface 71 (.int .i64 5)), rfl, rfl⟩, hs.pk (.f imON (.f imEC .n))⟩
 ·rw [cond_true] at H
  refine st 7 [false] (k_op (lB (hs.bl d0) 0 rfl ?_))
  refine st 1 [] (k_op (nS (e := 5) hs .i (tInt .u8) ([(IntKind.u8.wrap (x0.Cmd))] : List Int) [.int .u8 (IntKind.u8.wrap (x0.Cmd))] 1 (.int .u8 0) (Reps.int (I := (Cl.G .i E.B I)) (k := .u8) (l := [(IntKind.u8.wrap (x0.Cmd))])) ?_))
  intro b27 h hs
  refine st 4 [] ?_
  obtain ⟨j31, e58, H⟩ := letJ_some H
  refine k_join (fun ρ h => ∃ (x30 : Bool) (I : Gh), j31 x30 = some r ∧ Fits [(1, .int .i64 x1), (2, .pointer (some ⟨b25, 0, none⟩)), (6, .slice (some ⟨b27, 0, none⟩) 1 1), (21, .bool x30)] ρ ∧ St E [rO (tInt .u8) .i (some ⟨b27, 0, none⟩) 1 1 [(IntKind.u8.wrap (x0.Cmd))], rR t_api_Order .b a21 p22 x0.Orders.length x0.Orders, rB b25 [.int .i64 x0.Cmd, .bool x0.Wcc.Alarm, .bool x0.Wcc.Unlock, .bool x0.Wcc.Reset, .slice a21 x0.Orders.length p22] 39] I h) ?_ ?_
  ·refine st 2 [] (k_op (lB (hs.bl d1) 0 rfl ?_))
   refine k_call H (fun _ m => stream_Writes.calls m) ?_
   rintro t29 _ _ H ⟨rfl, rfl⟩
   cases t29
   ·rw [cond_false] at H
    refine st 2 [] ?_
    exact k_end ⟨true, I, H, ⟨by kernel_rfl, by kernel_rfl, by kernel_rfl, by kernel_rfl, trivial⟩, hs.pk (.c d0 (.c d1 (.c d0 .n)))⟩
   ·rw [cond_true] at H
    refine st 2 [] ?_
    exact k_end ⟨false, I, H, ⟨by kernel_rfl, by kernel_rfl, by kernel_rfl, by kernel_rfl, trivial⟩, hs.pk (.c d0 (.c d1 (.c d0 .n)))⟩
  ·clear H
   rintro ρ h ⟨x30, I, H, hf, hs⟩
   refine k_fits _ hf ?_ rfl
   subst e58
   try dsimp only at H
   cases x30
   ·rw [cond_false] at H
    refine st 5 [false] (k_op (lB (hs.bl d2) 4 rfl ?_))
    obtain ⟨hk, bk⟩ := hs.call tk0 (.c (qB d1) .n)
    refine st 1 [] (k_call H (fun _ m => stream_orders.calls m hk) ?_)
    rintro t34 _ h H ⟨I, _, ⟨a35, p36, n37, v39, rfl, rfl⟩, hk⟩
    replace hs := bk hk ct2 rfl
    obtain rfl := hs.nO d0
    rcases (hs.er d1).cases with ⟨c41, rfl⟩ | ⟨c41, t42, u43, rfl⟩
    ·rw [if_pos c41] at H
     refine st 19 [false] (k_op (lN (hs.bl d4) 1 3 ?_))
     obtain ⟨hk, bk⟩ := hs.call tk0 .n
     refine k_call H (fun _ m => attr_PutWcc.calls m hk) ?_
     rintro t44 _ h H ⟨I, _, ⟨rfl, rfl⟩, hk⟩
     replace hs := bk hk ct0 rfl
     refine k_op (nS (e := 5) hs .i (tInt .u8) ([t44] : List Int) [.int .u8 t44] 1 (.int .u8 0) (Reps.int (I := (Cl.G .i E.B I)) (k := .u8) (l := [t44])) ?_)
     intro b45 h hs
     replace hs := (hs.f d3)
     obtain ⟨l47, m48, H⟩ := bind_some H
     refine k_op (aO (e := 5) (bytes := 1) hs (hs.sO d1) m48 ?_)
     intro a49 p50 h hs
     obtain ⟨l52, m53, H⟩ := bind_some H
     refine st 1 [] (k_op (aO (e := 5) (bytes := 1) hs (hs.sO d2) m53 ?_))
     intro a54 p55 h hs
     refine st 6 [] (k_ite H (fun c57 H => ?_) (fun c57 H => ?_))
     ·refine st 8 [true] ?_
      refine k_retQ ?_
      obtain rfl := Option.some.inj H
      exact ⟨_, by kernel_rfl, I, _, ⟨none, 0, 0, (.iface 71 (.int .i64 6)), rfl, rfl⟩, hs.pk (.f imON (.f imEC .n))⟩
     ·refine st 9 [false] ?_
      refine k_retQ ?_
      obtain rfl := Option.some.inj H
      exact ⟨_, by kernel_rfl, I, _, ⟨a54, p55, l52.length, (.nilIface), rfl, rfl⟩, hs.pk (.c d0 (.f imEN .n))⟩
    ·rw [if_neg c41] at H
     refine st 19 [true] ?_
     refine k_retQ ?_
     obtain rfl := Option.some.inj H
     exact ⟨_, by kernel_rfl, I, _, ⟨none, 0, 0, ((.iface t42 u43)), rfl, rfl⟩, hs.pk (.f imON (.c d1 .n))⟩
   ·rw [cond_true] at H
    refine st 5 [true] (k_op (lN (hs.bl d2) 1 3 ?_))
    rcases bool_or ((x0.Wcc.Alarm == false) && ((x0.Wcc.Unlock == false) && ((x0.Wcc.Reset == false) && true))) with c32 | c32
    ·replace H := bif_f c32 H
     refine st 1 [] (k_op (owp_run (.bool true) (run_bool (run_neAgg (xs := #[.bool x0.Wcc.Alarm, .bool x0.Wcc.Unlock, .bool x0.Wcc.Reset]) (ys := #[.bool false, .bool false, .bool false]) (by kernel_rfl) (by kernel_rfl) (by kernel_rfl) (eqB_run (b := ((x0.Wcc.Alarm == false) && ((x0.Wcc.Unlock == false) && ((x0.Wcc.Reset == false) && true)))) (by kernel_rfl))) (notB c32)) ?_))
     refine st 14 [true] ?_
     refine k_retQ ?_
     obtain rfl := Option.some.inj H
     exact ⟨_, by kernel_rfl, I, _, ⟨none, 0, 0, (.iface 71 (.int .i64 1)), rfl, rfl⟩, hs.pk (.f imON (.f imEC .n))⟩
    ·replace H := bif_t c32 H
     refine st 1 [] (k_op (owp_run (.bool false) (run_bool (run_neAgg (xs := #[.bool x0.Wcc.Alarm, .bool x0.Wcc.Unlock, .bool x0.Wcc.Reset]) (ys := #[.bool false, .bool false, .bool false]) (by kernel_rfl) (by kernel_rfl) (by kernel_rfl) (eqB_run (b := ((x0.Wcc.Alarm == false) && ((x0.Wcc.Unlock == false) && ((x0.Wcc.Reset == false) && true)))) (by kernel_rfl))) (notB c32)) ?_))
     refine st 2 [] (k_op (lB (hs.bl d2) 4 rfl ?_))
     refine st 1 [] (k_ite H (fun c33 H => ?_) (fun c33 H => ?_))
     ·refine st 9 [true] ?_
      refine k_retQ ?_
      obtain rfl := Option.some.inj H
      exact ⟨_, by kernel_rfl, I, _, ⟨none, 0, 0, (.iface 71 (.int .i64 1)), rfl, rfl⟩, hs.pk (.f imON (.f imEC .n))⟩
     ·refine st 10 [false] ?_
      refine k_retQ ?_
      obtain rfl := Option.some.inj H
      exact ⟨_, by kernel_rfl, I, _, ⟨(some ⟨b27, 0, none⟩), 1, 1, (.nilIface), rfl, rfl⟩, hs.pk (.c d0 (.f imEN .n))⟩

/-! shutter/read.Reply -/
def read_Reply.m (K : Nat) (x0 : api_Screen) (x1 : Int) (x2 : Int) : Option ((List Int) × GoErr) :=
  (letJ (α := Bool → Option ((List Int) × GoErr)) (fun (x27 : Bool) => (bif x27 then ((read_Modified.m K x0 x2).bind fun t29 => (if t29.2 = GoErr.nil then ((grid_Size.m x0).bind fun t40 => ((input_Write.m K t29.1 t40).bind fun t41 => (some (t41.1, t41.2)))) else (some ([], t29.2)))) else (letJ (α := Bool → Option ((List Int) × GoErr)) (fun (x49 : Bool) => (bif x49 then ((read_Image.m K x0).bind fun t51 => ((grid_Size.m x0).bind fun t56 => ((stream_Write.m K (⟨241, (⟨false, false, false⟩ : api_Wcc), t51⟩ : api_Out) t56).bind fun t57 => (some (t57.1, t57.2))))) else (some ([], (GoErr.no 5))))) fun (j50 : Bool → Option ((List Int) × GoErr)) => (if x1 = 242 then (j50 true) else (j50 false))))) fun (j28 : Bool → Option ((List Int) × GoErr)) => (if x1 = 246 then (j28 true) else (j28 false)))

theorem read_Reply.calls {B I : Gh} {h : Heap} {K : Nat} {x0 : api_Screen} {x1 : Int} {x2 : Int} {a21 : Option Addr} {p22 : Nat} {n23 : Nat} {r : ((List Int) × GoErr)} (H : read_Reply.m K x0 x1 x2 = some r)  :
    Fc Tryz.prog 8 #[.agg #[.int .i64 x0.Rows, .int .i64 x0.Cols, .slice a21 n23 p22, .int .i64 x0.Cursor, .bool x0.Locked, .bool x0.Insert], .int .i64 x1, .int .u8 x2] [rR t_api_Cell .b a21 p22 n23 x0.Cells] B I h (fun v L => ∃ (a66 : Option Addr) (p67 : Nat) (n68 : Nat) (v70 : Value), v = .tuple #[.slice a66 n68 p67, v70] ∧ L = [rO (tInt .u8) .i a66 p67 n68 r.1, rE .i v70 r.2]) := by
 refine fc_of fun E hs => ?_
 unfold read_Reply.m at H
 obtain rfl := hs.nR d0
 refine fn_of (args := [.agg #[.int .i64 x0.Rows, .int .i64 x0.Cols, .slice a21 x0.Cells.length p22, .int .i64 x0.Cursor, .bool x0.Locked, .bool x0.Insert], .int .i64 x1, .int .u8 x2]) (rs := [.tmp 6, .tmp 7]) (N := 39) Tryz.func8 rfl rfl rfl rfl ?_
 refine st 2 [] (k_op (nB hs [.int .i64 x0.Rows, .int .i64 x0.Cols, .slice a21 x0.Cells.length p22, .int .i64 x0.Cursor, .bool x0.Locked, .bool x0.Insert] ?_))
 intro b25 h hs
 refine st 10 [] ?_
 obtain ⟨j28, e65, H⟩ := letJ_some H
 refine k_join (fun ρ h => ∃ (x27 : Bool) (I : Gh), j28 x27 = some r ∧ Fits [(2, .int .u8 x2), (3, .pointer (some ⟨b25, 0, none⟩)), (10, .int .i64 x1), (11, .bool x27)] ρ ∧ St E [rR t_api_Cell .b a21 p22 x0.Cells.length x0.Cells, rB b25 [.int .i64 x0.Rows, .int .i64 x0.Cols, .slice a21 x0.Cells.length p22, .int .i64 x0.Cursor, .bool x0.Locked, .bool x0.Insert] 24] I h) ?_ ?_
 ·refine st 1 [] (k_ite H (fun c26 H => ?_) (fun c26 H => ?_))
  ·refine st 2 [] ?_
   exact k_end ⟨true, I, H, ⟨by kernel_rfl, by kernel_rfl, by kernel_rfl, by kernel_rfl, trivial⟩, hs.pk (.c d1 (.c d0 .n))⟩
  ·refine st 2 [] ?_
   exact k_end ⟨false, I, H, ⟨by kernel_rfl, by kernel_rfl, by kernel_rfl, by kernel_rfl, trivial⟩, hs.pk (.c d1 (.c d0 .n))⟩
 ·clear H
  rintro ρ h ⟨x27, I, H, hf, hs⟩
  refine k_fits _ hf ?_ rfl
  subst e65
  try dsimp only at H
  cases x27
  ·rw [cond_false] at H
   refine st 2 [false] ?_
   obtain ⟨j50, e64, H⟩ := letJ_some H
   refine k_join (fun ρ h => ∃ (x49 : Bool) (I : Gh), j50 x49 = some r ∧ Fits [(3, .pointer (some ⟨b25, 0, none⟩)), (28, .bool x49)] ρ ∧ St E [rR t_api_Cell .b a21 p22 x0.Cells.length x0.Cells, rB b25 [.int .i64 x0.Rows, .int .i64 x0.Cols, .slice a21 x0.Cells.length p22, .int .i64 x0.Cursor, .bool x0.Locked, .bool x0.Insert] 24] I h) ?_ ?_
   ·refine st 1 [] (k_ite H (fun c48 H => ?_) (fun c48 H => ?_))
    ·refine st 2 [] ?_
     exact k_end ⟨true, I, H, ⟨by kernel_rfl, by kernel_rfl, trivial⟩, hs.pk (.c d0 (.c d0 .n))⟩
    ·refine st 2 [] ?_
     exact k_end ⟨false, I, H, ⟨by kernel_rfl, by kernel_rfl, trivial⟩, hs.pk (.c d0 (.c d0 .n))⟩
   ·clear H
    rintro ρ h ⟨x49, I, H, hf, hs⟩
    refine k_fits _ hf ?_ rfl
    subst e64
    try dsimp only at H
    cases x49
    ·rw [cond_false] at H
     refine st 9 [false] ?_
     refine k_retQ ?_
     obtain rfl := Option.some.inj H
     exact ⟨_, by kernel_rfl, I, _, ⟨none, 0, 0, (.iface 71 (.int .i64 5)), rfl, rfl⟩, hs.pk (.f imON (.f imEC .n))⟩
    ·rw [cond_true] at H
     refine st 2 [true] ?_
     obtain ⟨hs0, bk0⟩ := hs.call tk0 (.c (qL d1) (.c (qB d0) .n))
     have hs := hs0
     refine k_regD hs0 10 ?_
     refine aG 0 rfl hs.keep (lls hs0 d0 0 6 rfl) (nmL hs0 d0) ?_
     refine aG 3 rfl hs.keep (lls hs0 d0 0 6 rfl) (nmL hs0 d0) ?_
     obtain ⟨hk, bk⟩ := hs.call tk0 (.c (qB d1) .n)
     refine aO1 1 rfl (o_call H (fun _ m => read_Image.calls m hk) ?_)
     rintro t51 _ h H ⟨I, _, ⟨a52, p53, n54, rfl, rfl⟩, hk⟩
     replace hs := bk hk ct1 rfl
     obtain rfl := hs.nO d0
     refine ⟨hs.keep, ?_⟩
     refine aRun [2] 6 hs.keep ?_
     obtain ⟨hk, bk⟩ := hs.call tk0 (.c (qB d2) .n)
     refine aO1 4 rfl (o_call H (fun _ m => grid_Size.calls m hk) ?_)
     rintro t56 _ h H ⟨I, _, ⟨rfl, rfl⟩, hk⟩
     replace hs := bk hk ct0 rfl
     refine ⟨hs.keep, ?_⟩
     obtain ⟨hk, bk⟩ := hs.call tk0 (.c (qO d0) .n)
     refine aO1 5 rfl (o_call H (fun _ m => stream_Write.calls m hk) ?_)
     rintro t57 _ h H ⟨I, _, ⟨a58, p59, n60, v62, rfl, rfl⟩, hk⟩
     replace hs := bk hk ct2 rfl
     obtain rfl := hs.nO d0
     refine ⟨hs.keep, ?_⟩
     refine aRun [6, 7, 8, 9] 0 hs.keep ?_
     replace hs := hs.pk (.c d0 (.c d0 (.c d0 .n)))
     replace hs := bk0 hs ct3 rfl
     refine aEnd ?_
     refine k_retQ ?_
     obtain rfl := Option.some.inj H
     exact ⟨_, by kernel_rfl, I, _, ⟨a58, p59, t57.1.length, (v62), rfl, rfl⟩, hs.pk (.c d0 (.c d0 .n))⟩
  ·rw [cond_true] at H
   refine st 3 [true] (k_op (lN (hs.bl d1) 0 6 ?_))
   obtain ⟨hk, bk⟩ := hs.call tk0 (.c (qB d0) .n)
   refine st 1 [] (k_call H (fun _ m => read_Modified.calls m hk) ?_)
   rintro t29 _ h H ⟨I, _, ⟨a30, p31, n32, v34, rfl, rfl⟩, hk⟩
   replace hs := bk hk ct2 rfl
   obtain rfl := hs.nO d0
   refine st 3 [] (k_op (nA hs [.int .u8 0, .int .i64 0, .slice none 0 0] (.agg #[.int .u8 0, .int .i64 0, .slice none 0 0]) ?_))
   intro b36 h hs
   refine k_op (sN hs 0 [.int .u8 t29.1.Aid, .int .i64 t29.1.Cursor, .slice a30 t29.1.Fields.length p31] [.int .u8 t29.1.Aid, .int .i64 t29.1.Cursor, .slice a30 t29.1.Fields.length p31] (ones_of rfl) ?_)
   intro h hs
   rcases (hs.er d2).cases with ⟨c37, rfl⟩ | ⟨c37, t38, u39, rfl⟩
   ·rw [if_pos c37] at H
    refine st 11 [false] ?_
    obtain ⟨hs0, bk0⟩ := hs.call tk0 (.c (qL d0) (.c (qL d4) (.c (qB d3) (.c (qO d1) .n))))
    have hs := hs0
    refine k_regD hs0 8 ?_
    refine aG 0 rfl hs.keep (lls hs0 d0 0 3 rfl) (nmL hs0 d0) ?_
    refine aG 1 rfl hs.keep (lls hs0 d1 0 6 rfl) (nmL hs0 d1) ?_
    obtain ⟨hk, bk⟩ := hs.call tk0 (.c (qB d2) .n)
    refine aO1 2 rfl (o_call H (fun _ m => grid_Size.calls m hk) ?_)
    rintro t40 _ h H ⟨I, _, ⟨rfl, rfl⟩, hk⟩
    replace hs := bk hk ct0 rfl
    refine ⟨hs.keep, ?_⟩
    obtain ⟨hk, bk⟩ := hs.call tk0 (.c (qB d3) .n)
    refine aO1 3 rfl (o_call H (fun _ m => input_Write.calls m hk) ?_)
    rintro t41 _ h H ⟨I, _, ⟨a42, p43, n44, v46, rfl, rfl⟩, hk⟩
    replace hs := bk hk ct2 rfl
    obtain rfl := hs.nO d0
    refine ⟨hs.keep, ?_⟩
    refine aRun [4, 5, 6, 7] 0 hs.keep ?_
    replace hs := hs.pk (.c d0 (.c d0 .n))
    replace hs := bk0 hs ct2 rfl
    refine aEnd ?_
    refine k_retQ ?_
    obtain rfl := Option.some.inj H
    exact ⟨_, by kernel_rfl, I, _, ⟨a42, p43, t41.1.length, (v46), rfl, rfl⟩, hs.pk (.c d0 (.c d0 .n))⟩
   ·rw [if_neg c37] at H
    refine st 15 [true] ?_
    refine k_retQ ?_
    obtain rfl := Option.some.inj H
    exact ⟨_, by kernel_rfl, I, _, ⟨none, 0, 0, ((.iface t38 u39)), rfl, rfl⟩, hs.pk (.f imON (.c d2 .n))⟩

/-! shutter/shutterref03.value -/
def shutterref03_value.m (x0 : Int) : Option Int :=
  (if x0 ≥ 97 then (some (w64 ((w64 (x0)) - 87))) else (some (w64 ((w64 (x0)) - 48))))

theorem shutterref03_value.calls {x0 : Int} {h : Heap} {r : Int} (H : shutterref03_value.m x0 = some r)   :
    Ret Tryz.prog 115 #[.int .u8 x0] h (fun v h' => .int .i64 r = v ∧ h' = h) := by
 unfold shutterref03_value.m at H
 refine fn_of (args := [.int .u8 x0]) (rs := [.tmp 2]) (N := 11) Tryz.func115 rfl rfl rfl rfl ?_
 refine st 8 [] (k_ite H (fun c21 H => ?_) (fun c21 H => ?_))
 ·refine st 9 [true] ?_
  refine k_retQ ?_
  obtain rfl := Option.some.inj H
  exact ⟨_, by kernel_rfl, rfl, rfl⟩
 ·refine st 10 [false] ?_
  refine k_retQ ?_
  obtain rfl := Option.some.inj H
  exact ⟨_, by kernel_rfl, rfl, rfl⟩

/-! shutter/shutterref03.Put -/
def shutterref03_Put.m (x0 : Int) : Option Int :=
  (if 0 ≤ (w64 (2 * x0)) then (if (w64 (2 * x0)) < 128 then (if 0 ≤ (w64 ((w64 (2 * x0)) + 1)) then (if (w64 ((w64 (2 * x0)) + 1)) < 128 then ((shutterref03_value.m (bt (⟨#[52, 48, 99, 49, 99, 50, 99, 51, 99, 52, 99, 53, 99, 54, 99, 55, 99, 56, 99, 57, 52, 97, 52, 98, 52, 99, 52, 100, 52, 101, 52, 102, 53, 48, 100, 49, 100, 50, 100, 51, 100, 52, 100, 53, 100, 54, 100, 55, 100, 56, 100, 57, 53, 97, 53, 98, 53, 99, 53, 100, 53, 101, 53, 102, 54, 48, 54, 49, 101, 50, 101, 51, 101, 52, 101, 53, 101, 54, 101, 55, 101, 56, 101, 57, 54, 97, 54, 98, 54, 99, 54, 100, 54, 101, 54, 102, 102, 48, 102, 49, 102, 50, 102, 51, 102, 52, 102, 53, 102, 54, 102, 55, 102, 56, 102, 57, 55, 97, 55, 98, 55, 99, 55, 100, 55, 101, 55, 102]⟩ : ByteArray) (w64 (2 * x0)))).bind fun t25 => ((shutterref03_value.m (bt (⟨#[52, 48, 99, 49, 99, 50, 99, 51, 99, 52, 99, 53, 99, 54, 99, 55, 99, 56, 99, 57, 52, 97, 52, 98, 52, 99, 52, 100, 52, 101, 52, 102, 53, 48, 100, 49, 100, 50, 100, 51, 100, 52, 100, 53, 100, 54, 100, 55, 100, 56, 100, 57, 53, 97, 53, 98, 53, 99, 53, 100, 53, 101, 53, 102, 54, 48, 54, 49, 101, 50, 101, 51, 101, 52, 101, 53, 101, 54, 101, 55, 101, 56, 101, 57, 54, 97, 54, 98, 54, 99, 54, 100, 54, 101, 54, 102, 102, 48, 102, 49, 102, 50, 102, 51, 102, 52, 102, 53, 102, 54, 102, 55, 102, 56, 102, 57, 55, 97, 55, 98, 55, 99, 55, 100, 55, 101, 55, 102]⟩ : ByteArray) (w64 ((w64 (2 * x0)) + 1)))).bind fun t26 => (some (IntKind.u8.wrap ((w64 ((w64 (16 * t25)) + t26))))))) else none) else none) else none) else none)

theorem shutterref03_Put.calls {x0 : Int} {h : Heap} {r : Int} (H : shutterref03_Put.m x0 = some r)   :
    Ret Tryz.prog 74 #[.int .i64 x0] h (fun v h' => .int .u8 r = v ∧ h' = h) := by
 unfold shutterref03_Put.m at H
 refine fn_of (args := [.int .i64 x0]) (rs := [.tmp 2]) (N := 15) Tryz.func74 rfl rfl rfl rfl ?_
 refine st 5 [] ?_
 refine k_regP 13 ?_
 obtain ⟨c21, H⟩ := guard_pos H
 obtain ⟨c22, H⟩ := guard_pos H
 refine aRun [0, 1] 11 Keep.refl ?_
 refine aP 2 (.int .u8 (bt (⟨#[52, 48, 99, 49, 99, 50, 99, 51, 99, 52, 99, 53, 99, 54, 99, 55, 99, 56, 99, 57, 52, 97, 52, 98, 52, 99, 52, 100, 52, 101, 52, 102, 53, 48, 100, 49, 100, 50, 100, 51, 100, 52, 100, 53, 100, 54, 100, 55, 100, 56, 100, 57, 53, 97, 53, 98, 53, 99, 53, 100, 53, 101, 53, 102, 54, 48, 54, 49, 101, 50, 101, 51, 101, 52, 101, 53, 101, 54, 101, 55, 101, 56, 101, 57, 54, 97, 54, 98, 54, 99, 54, 100, 54, 101, 54, 102, 102, 48, 102, 49, 102, 50, 102, 51, 102, 52, 102, 53, 102, 54, 102, 55, 102, 56, 102, 57, 55, 97, 55, 98, 55, 99, 55, 100, 55, 101, 55, 102]⟩ : ByteArray) (w64 (2 * x0)))) rfl (pr_indexStr (s := (⟨#[52, 48, 99, 49, 99, 50, 99, 51, 99, 52, 99, 53, 99, 54, 99, 55, 99, 56, 99, 57, 52, 97, 52, 98, 52, 99, 52, 100, 52, 101, 52, 102, 53, 48, 100, 49, 100, 50, 100, 51, 100, 52, 100, 53, 100, 54, 100, 55, 100, 56, 100, 57, 53, 97, 53, 98, 53, 99, 53, 100, 53, 101, 53, 102, 54, 48, 54, 49, 101, 50, 101, 51, 101, 52, 101, 53, 101, 54, 101, 55, 101, 56, 101, 57, 54, 97, 54, 98, 54, 99, 54, 100, 54, 101, 54, 102, 102, 48, 102, 49, 102, 50, 102, 51, 102, 52, 102, 53, 102, 54, 102, 55, 102, 56, 102, 57, 55, 97, 55, 98, 55, 99, 55, 100, 55, 101, 55, 102]⟩ : ByteArray)) (k := .i64) (i := (w64 (2 * x0))) (by kernel_rfl) (by kernel_rfl) (by kernel_rfl) c21 c22) Keep.refl ?_
 obtain ⟨c23, H⟩ := guard_pos H
 obtain ⟨c24, H⟩ := guard_pos H
 refine aRun [5, 6, 7] 7 Keep.refl ?_
 refine aP 8 (.int .u8 (bt (⟨#[52, 48, 99, 49, 99, 50, 99, 51, 99, 52, 99, 53, 99, 54, 99, 55, 99, 56, 99, 57, 52, 97, 52, 98, 52, 99, 52, 100, 52, 101, 52, 102, 53, 48, 100, 49, 100, 50, 100, 51, 100, 52, 100, 53, 100, 54, 100, 55, 100, 56, 100, 57, 53, 97, 53, 98, 53, 99, 53, 100, 53, 101, 53, 102, 54, 48, 54, 49, 101, 50, 101, 51, 101, 52, 101, 53, 101, 54, 101, 55, 101, 56, 101, 57, 54, 97, 54, 98, 54, 99, 54, 100, 54, 101, 54, 102, 102, 48, 102, 49, 102, 50, 102, 51, 102, 52, 102, 53, 102, 54, 102, 55, 102, 56, 102, 57, 55, 97, 55, 98, 55, 99, 55, 100, 55, 101, 55, 102]⟩ : ByteArray) (w64 ((w64 (2 * x0)) + 1)))) rfl (pr_indexStr (s := (⟨#[52, 48, 99, 49, 99, 50, 99, 51, 99, 52, 99, 53, 99, 54, 99, 55, 99, 56, 99, 57, 52, 97, 52, 98, 52, 99, 52, 100, 52, 101, 52, 102, 53, 48, 100, 49, 100, 50, 100, 51, 100, 52, 100, 53, 100, 54, 100, 55, 100, 56, 100, 57, 53, 97, 53, 98, 53, 99, 53, 100, 53, 101, 53, 102, 54, 48, 54, 49, 101, 50, 101, 51, 101, 52, 101, 53, 101, 54, 101, 55, 101, 56, 101, 57, 54, 97, 54, 98, 54, 99, 54, 100, 54, 101, 54, 102, 102, 48, 102, 49, 102, 50, 102, 51, 102, 52, 102, 53, 102, 54, 102, 55, 102, 56, 102, 57, 55, 97, 55, 98, 55, 99, 55, 100, 55, 101, 55, 102]⟩ : ByteArray)) (k := .i64) (i := (w64 ((w64 (2 * x0)) + 1))) (by kernel_rfl) (by kernel_rfl) (by kernel_rfl) c23 c24) Keep.refl ?_
 refine aO1 3 rfl (o_call H (fun _ m => shutterref03_value.calls m) ?_)
 rintro t25 _ _ H ⟨rfl, rfl⟩
 refine ⟨Keep.refl, ?_⟩
 refine aRun [4] 4 Keep.refl ?_
 refine aO1 9 rfl (o_call H (fun _ m => shutterref03_value.calls m) ?_)
 rintro t26 _ _ H ⟨rfl, rfl⟩
 refine ⟨Keep.refl, ?_⟩
 refine aRun [10, 11, 12] 0 Keep.refl ?_
 refine aEnd ?_
 refine k_retQ ?_
 obtain rfl := Option.some.inj H
 exact ⟨_, by kernel_rfl, rfl, rfl⟩

/-! shutter/shutterref05.PutWcc -/
def shutterref05_PutWcc.m (x0 : api_Wcc) : Option Int :=
  (letJ (α := Int → Option Int) (fun (x23 : Int) => (bif x0.Unlock then (bif x0.Reset then ((shutterref03_Put.m (w64 ((w64 (x23 + 2)) + 1))).bind fun t27 => (some t27)) else ((shutterref03_Put.m (w64 (x23 + 2))).bind fun t28 => (some t28))) else (bif x0.Reset then ((shutterref03_Put.m (w64 (x23 + 1))).bind fun t30 => (some t30)) else ((shutterref03_Put.m x23).bind fun t31 => (some t31))))) fun (j24 : Int → Option Int) => (bif x0.Alarm then (j24 (w64 (0 + 4))) else (j24 0)))

theorem shutterref05_PutWcc.calls {B I : Gh} {h : Heap} {x0 : api_Wcc} {r : Int} (H : shutterref05_PutWcc.m x0 = some r)  :
    Fc Tryz.prog 32 #[.agg #[.bool x0.Alarm, .bool x0.Unlock, .bool x0.Reset]] [] B I h (fun v L => v = .int .u8 r ∧ L = []) := by
 refine fc_of fun E hs => ?_
 unfold shutterref05_PutWcc.m at H
 refine fn_of (args := [.agg #[.bool x0.Alarm, .bool x0.Unlock, .bool x0.Reset]]) (rs := [.tmp 2]) (N := 18) Tryz.func32 rfl rfl rfl rfl ?_
 refine st 2 [] (k_op (nB hs [.bool x0.Alarm, .bool x0.Unlock, .bool x0.Reset] ?_))
 intro b21 h hs
 refine st 7 [] ?_
 obtain ⟨j24, e32, H⟩ := letJ_some H
 refine k_join (fun ρ h => ∃ (x23 : Int) (I : Gh), j24 x23 = some r ∧ Fits [(1, .pointer (some ⟨b21, 0, none⟩)), (3, .int .i64 x23)] ρ ∧ St E [rB b21 [.bool x0.Alarm, .bool x0.Unlock, .bool x0.Reset] 37] I h) ?_ ?_
 ·refine st 3 [] (k_op (lB (hs.bl d0) 0 rfl ?_))
  refine k_spl H (fun c22 H => ?_) (fun c22 H => ?_)
  ·refine st 7 [true] ?_
   exact k_end ⟨(w64 (0 + 4)), I, H, ⟨by kernel_rfl, by kernel_rfl, trivial⟩, hs.pk (.c d0 .n)⟩
  ·refine st 3 [false] ?_
   exact k_end ⟨0, I, H, ⟨by kernel_rfl, by kernel_rfl, trivial⟩, hs.pk (.c d0 .n)⟩
 ·clear H
  rintro ρ h ⟨x23, I, H, hf, hs⟩
  refine k_fits _ hf ?_ rfl
  subst e32
  try dsimp only at H
  refine st 4 [] (k_op (lB (hs.bl d0) 1 rfl ?_))
  refine k_spl H (fun c25 H => ?_) (fun c25 H => ?_)
  ·refine st 11 [true] (k_op (lB (hs.bl d0) 2 rfl ?_))
   refine k_spl H (fun c26 H => ?_) (fun c26 H => ?_)
   ·refine st 10 [true] (k_call H (fun _ m => shutterref03_Put.calls m) ?_)
    rintro t27 _ _ H ⟨rfl, rfl⟩
    refine st 2 [] ?_
    refine k_retQ ?_
    obtain rfl := Option.some.inj H
    exact ⟨_, by kernel_rfl, I, _, ⟨rfl, rfl⟩, hs.pk .n⟩
   ·refine st 6 [false] (k_call H (fun _ m => shutterref03_Put.calls m) ?_)
    rintro t28 _ _ H ⟨rfl, rfl⟩
    refine st 2 [] ?_
    refine k_retQ ?_
    obtain rfl := Option.some.inj H
    exact ⟨_, by kernel_rfl, I, _, ⟨rfl, rfl⟩, hs.pk .n⟩
  ·refine st 7 [false] (k_op (lB (hs.bl d0) 2 rfl ?_))
   refine k_spl H (fun c29 H => ?_) (fun c29 H => ?_)
   ·refine st 10 [true] (k_call H (fun _ m => shutterref03_Put.calls m) ?_)
    rintro t30 _ _ H ⟨rfl, rfl⟩
    refine st 2 [] ?_
    refine k_retQ ?_
    obtain rfl := Option.some.inj H
    exact ⟨_, by kernel_rfl, I, _, ⟨rfl, rfl⟩, hs.pk .n⟩
   ·refine st 6 [false] (k_call H (fun _ m => shutterref03_Put.calls m) ?_)
    rintro t31 _ _ H ⟨rfl, rfl⟩
    refine st 2 [] ?_
    refine k_retQ ?_
    obtain rfl := Option.some.inj H
    exact ⟨_, by kernel_rfl, I, _, ⟨rfl, rfl⟩, hs.pk .n⟩

/-! shutter/shutterref05.Chars -/
def shutterref05_Chars.l1.m (K : Nat) (x0 : (List Int)) : Nat → Int → Option (Bool ⊕ (Unit))
  | 0, _ => none
  | k + 1, x26 => (if x26 < (x0.length : Int) then (if 0 ≤ x26 then ((shutterref05_Char.m (at_ x0 x26)).bind fun t32 => bif t32 then (shutterref05_Chars.l1.m K x0 k (w64 (x26 + 1))) else (some (Sum.inl false))) else none) else (some (Sum.inr ())))
def shutterref05_Chars.m (K : Nat) (x0 : (List Int)) : Option Bool :=
  ((shutterref05_Chars.l1.m K x0 K 0).bind fun s27 => match s27 with | .inl q => (some q) | .inr _ => (some true))

theorem shutterref05_Chars.calls {G : Gh} {K : Nat} {x0 : (List Int)} {a21 : Option Addr} {p22 : Nat} {n23 : Nat} {h : Heap} {r : Bool} (H : shutterref05_Chars.m K x0 = some r)  (s25 : Sn (tInt .u8) G h a21 p22 n23 x0) :
    Ret Tryz.prog 75 #[.slice a21 n23 p22] h (fun v h' => .bool r = v ∧ h' = h) := by
 unfold shutterref05_Chars.m at H
 obtain rfl := s25.len.symm
 refine fn_of (args := [.slice a21 x0.length p22]) (rs := [.tmp 2]) (N := 16) Tryz.func75 rfl rfl rfl rfl ?_
 refine st 10 [] ?_
 obtain ⟨s27, m29, HR28⟩ := bind_some H
 refine k_loop 0 (fun k' ρ h1 => ∃ (x26 : Int), shutterref05_Chars.l1.m K x0 k' x26 = some s27 ∧ Fits [(0, .slice a21 x0.length p22), (3, .int .i64 x26)] ρ ∧ h = h1) (fun ρ h1 => Sum.inr () = s27 ∧ Fits [] ρ ∧ h = h1) K ⟨0, m29, ⟨by kernel_rfl, by kernel_rfl, trivial⟩, rfl⟩ ?_ rfl ?_
 ·clear m29 H
  rintro k' ρ h1 ⟨x26, H, hf, rfl⟩
  cases k' with
  | zero => cases H
  | succ k =>
   rw [shutterref05_Chars.l1.m] at H
   refine k_fits _ hf ?_ rfl
   refine st 6 [] (k_ite H (fun c30 H => ?_) (fun c30 H => ?_))
   ·obtain ⟨c31, H⟩ := guard_pos H
    refine st 9 [true] (k_val (elemPtr a21 (x26.toNat * 1)) (pI (e := 5) (ik := .i64) s25 c31 c30) ?_)
    refine k_op (lC (s25.cell1 c31 c30) ?_)
    refine k_call H (fun _ m => shutterref05_Char.calls m) ?_
    rintro t32 _ _ H ⟨rfl, rfl⟩
    cases t32
    ·rw [cond_false] at H
     refine st 7 [true] ?_
     refine k_retQ (krL ?_)
     obtain rfl := Option.some.inj H
     obtain rfl := Option.some.inj HR28
     exact ⟨_, by kernel_rfl, rfl, rfl⟩
    ·rw [cond_true] at H
     refine st 10 [false] ?_
     exact k_endL ⟨k, Nat.lt_succ_self _, (w64 (x26 + 1)), H, ⟨by kernel_rfl, by kernel_rfl, trivial⟩, rfl⟩
   ·refine st 2 [false] ?_
    refine k_out rfl ?_
    obtain rfl := Option.some.inj H
    exact xE ⟨rfl, trivial, rfl⟩
 ·rintro ρ h1 ⟨rfl, hf, rfl⟩
  have H := HR28
  try dsimp only at H
  refine k_fits _ hf ?_ rfl
  refine st 4 [] ?_
  refine k_retQ ?_
  obtain rfl := Option.some.inj H
  exact ⟨_, by kernel_rfl, rfl, rfl⟩

/-! shutter/shutterref07.Wrong -/
def shutterref07_Wrong.m (K : Nat) (x0 : api_Order) (x1 : Int) : Option Int :=
  (if x0.Kind < 1 then (some 5) else (if x0.Kind > 7 then (some 5) else (bif ((x0.Kind == 1) != (decide ((x0.Text.length : Int) > 0))) then (some 1) else ((shutterref05_Chars.m K x0.Text).bind fun t29 => bif t29 then (letJ (α := Option Int) (letJ (α := Option Int) (letJ (α := Option Int) (if x0.Addr < 0 then (some 4) else (if x0.Addr ≥ x1 then (some 4) else (some 0))) fun (j45 : Option Int) => (if x0.Kind = 3 then j45 else (if x0.Kind = 6 then j45 else (if x0.Kind = 7 then j45 else (if x0.Addr = 0 then (some 0) else (some 1)))))) fun (j40 : Option Int) => (if x0.Kind = 6 then ((shutterref05_Char.m x0.Char).bind fun t37 => bif t37 then j40 else (some 1)) else (if x0.Kind = 6 then j40 else (if x0.Char = 0 then j40 else (some 1))))) fun (j35 : Option Int) => (if x0.Kind = 2 then (if x0.Attr.Show < 0 then (some 1) else (if x0.Attr.Show > 3 then (some 1) else j35)) else (if x0.Kind = 2 then j35 else (bif ((x0.Attr.Protected == false) && ((x0.Attr.Numeric == false) && ((x0.Attr.Show == 0) && ((x0.Attr.Modified == false) && true)))) then j35 else (some 1))))) else (some 1)))))

theorem shutterref07_Wrong.calls {B I : Gh} {h : Heap} {K : Nat} {x0 : api_Order} {x1 : Int} {a21 : Option Addr} {p22 : Nat} {n23 : Nat} {r : Int} (H : shutterref07_Wrong.m K x0 x1 = some r)  :
    Fc Tryz.prog 33 #[.agg #[.int .i64 x0.Kind, .slice a21 n23 p22, .bool x0.Attr.Protected, .bool x0.Attr.Numeric, .int .i64 x0.Attr.Show, .bool x0.Attr.Modified, .int .i64 x0.Addr, .int .u8 x0.Char], .int .i64 x1] [rR (tInt .u8) .b a21 p22 n23 x0.Text] B I h (fun v L => v = .int .i64 r ∧ L = []) := by
 refine fc_of fun E hs => ?_
 unfold shutterref07_Wrong.m at H
 obtain rfl := hs.nR d0
 refine fn_of (args := [.agg #[.int .i64 x0.Kind, .slice a21 x0.Text.length p22, .bool x0.Attr.Protected, .bool x0.Attr.Numeric, .int .i64 x0.Attr.Show, .bool x0.Attr.Modified, .int .i64 x0.Addr, .int .u8 x0.Char], .int .i64 x1]) (rs := [.tmp 4]) (N := 90) Tryz.func33 rfl rfl rfl rfl ?_
 refine st 2 [] (k_op (nB hs [.int .i64 x0.Kind, .slice a21 x0.Text.length p22, .bool x0.Attr.Protected, .bool x0.Attr.Numeric, .int .i64 x0.Attr.Show, .bool x0.Attr.Modified, .int .i64 x0.Addr, .int .u8 x0.Char] ?_))
 intro b25 h hs
 refine st 5 [] (k_op (lB (hs.bl d0) 0 rfl ?_))
 refine st 6 [] (k_ite H (fun c26 H => ?_) (fun c26 H => ?_))
 ·refine st 10 [true] ?_
  refine k_retQ ?_
  obtain rfl := Option.some.inj H
  exact ⟨_, by kernel_rfl, I, _, ⟨rfl, rfl⟩, hs.pk .n⟩
 ·refine st 2 [] (k_ite H (fun c27 H => ?_) (fun c27 H => ?_))
  ·refine st 7 [true] ?_
   refine k_retQ ?_
   obtain rfl := Option.some.inj H
   exact ⟨_, by kernel_rfl, I, _, ⟨rfl, rfl⟩, hs.pk .n⟩
  ·refine st 10 [false] (k_op (lB (hs.bl d0) 1 rfl ?_))
   refine st 2 [] (k_if H (fun c28 H => ?_) (fun c28 H => ?_))
   ·refine st 12 [true] ?_
    refine k_retQ ?_
    obtain rfl := Option.some.inj H
    exact ⟨_, by kernel_rfl, I, _, ⟨rfl, rfl⟩, hs.pk .n⟩
   ·refine st 2 [] (k_op (lB (hs.bl d0) 1 rfl ?_))
    refine k_call H (fun _ m => shutterref05_Chars.calls m (hs.sR d1)) ?_
    rintro t29 _ _ H ⟨rfl, rfl⟩
    cases t29
    ·rw [cond_false] at H
     refine st 8 [true] ?_
     refine k_retQ ?_
     obtain rfl := Option.some.inj H
     exact ⟨_, by kernel_rfl, I, _, ⟨rfl, rfl⟩, hs.pk .n⟩
    ·rw [cond_true] at H
     refine st 6 [false] ?_
     obtain ⟨j35, e50, H⟩ := letJ_some H
     refine k_join (fun ρ h => ∃ (I : Gh), j35 = some r ∧ Fits [(1, .int .i64 x1), (2, .pointer (some ⟨b25, 0, none⟩)), (5, .int .i64 x0.Kind)] ρ ∧ St E [rR (tInt .u8) .b a21 p22 x0.Text.length x0.Text, rB b25 [.int .i64 x0.Kind, .slice a21 x0.Text.length p22, .bool x0.Attr.Protected, .bool x0.Attr.Numeric, .int .i64 x0.Attr.Show, .bool x0.Attr.Modified, .int .i64 x0.Addr, .int .u8 x0.Char] 76] I h) ?_ ?_
     ·refine st 3 [] (k_ite H (fun c30 H => ?_) (fun c30 H => ?_))
      ·refine st 3 [] (k_op (lB (hs.bl d0) 4 rfl ?_))
       refine k_ite H (fun c31 H => ?_) (fun c31 H => ?_)
       ·refine st 23 [true] ?_
        refine k_retQ (krJ ?_)
        obtain rfl := Option.some.inj H
        exact ⟨_, by kernel_rfl, I, _, ⟨rfl, rfl⟩, hs.pk .n⟩
       ·refine st 3 [] (k_op (lB (hs.bl d0) 4 rfl ?_))
        refine k_ite H (fun c32 H => ?_) (fun c32 H => ?_)
        ·refine st 18 [true] ?_
         refine k_retQ (krJ ?_)
         obtain rfl := Option.some.inj H
         exact ⟨_, by kernel_rfl, I, _, ⟨rfl, rfl⟩, hs.pk .n⟩
        ·refine st 4 [] (k_val (.bool false) (pr_bool (by kernel_rfl) (neF c30)) ?_)
         refine st 10 [false] ?_
         exact k_end ⟨I, H, ⟨by kernel_rfl, by kernel_rfl, by kernel_rfl, trivial⟩, hs.pk (.c d1 (.c d0 .n))⟩
      ·refine st 14 [] (k_iteN H (fun c33 H => ?_) (fun c33 H => ?_))
       ·refine st 10 [false] ?_
        exact k_end ⟨I, H, ⟨by kernel_rfl, by kernel_rfl, by kernel_rfl, trivial⟩, hs.pk (.c d1 (.c d0 .n))⟩
       ·refine st 2 [] (k_op (lN (hs.bl d0) 2 4 ?_))
        rcases bool_or ((x0.Attr.Protected == false) && ((x0.Attr.Numeric == false) && ((x0.Attr.Show == 0) && ((x0.Attr.Modified == false) && true)))) with c34 | c34
        ·replace H := bif_f c34 H
         refine st 1 [] (k_op (owp_run (.bool true) (run_bool (run_neAgg (xs := #[.bool x0.Attr.Protected, .bool x0.Attr.Numeric, .int .i64 x0.Attr.Show, .bool x0.Attr.Modified]) (ys := #[.bool false, .bool false, .int .i64 0, .bool false]) (by kernel_rfl) (by kernel_rfl) (by kernel_rfl) (eqB_run (b := ((x0.Attr.Protected == false) && ((x0.Attr.Numeric == false) && ((x0.Attr.Show == 0) && ((x0.Attr.Modified == false) && true))))) (by kernel_rfl))) (notB c34)) ?_))
         refine st 8 [true] ?_
         refine k_retQ (krJ ?_)
         obtain rfl := Option.some.inj H
         exact ⟨_, by kernel_rfl, I, _, ⟨rfl, rfl⟩, hs.pk .n⟩
        ·replace H := bif_t c34 H
         refine st 1 [] (k_op (owp_run (.bool false) (run_bool (run_neAgg (xs := #[.bool x0.Attr.Protected, .bool x0.Attr.Numeric, .int .i64 x0.Attr.Show, .bool x0.Attr.Modified]) (ys := #[.bool false, .bool false, .int .i64 0, .bool false]) (by kernel_rfl) (by kernel_rfl) (by kernel_rfl) (eqB_run (b := ((x0.Attr.Protected == false) && ((x0.Attr.Numeric == false) && ((x0.Attr.Show == 0) && ((x0.Attr.Modified == false) && true))))) (by kernel_rfl))) (notB c34)) ?_))
         refine st 5 [false] ?_
         exact k_end ⟨I, H, ⟨by kernel_rfl, by kernel_rfl, by kernel_rfl, trivial⟩, hs.pk (.c d1 (.c d0 .n))⟩
     ·clear H
      rintro ρ h ⟨I, H, hf, hs⟩
      refine k_fits _ hf ?_ rfl
      subst e50
      try dsimp only at H
      refine st 1 [] ?_
      obtain ⟨j40, e49, H⟩ := letJ_some H
      refine k_join (fun ρ h => ∃ (I : Gh), j40 = some r ∧ Fits [(1, .int .i64 x1), (2, .pointer (some ⟨b25, 0, none⟩)), (5, .int .i64 x0.Kind)] ρ ∧ St E [rR (tInt .u8) .b a21 p22 x0.Text.length x0.Text, rB b25 [.int .i64 x0.Kind, .slice a21 x0.Text.length p22, .bool x0.Attr.Protected, .bool x0.Attr.Numeric, .int .i64 x0.Attr.Show, .bool x0.Attr.Modified, .int .i64 x0.Addr, .int .u8 x0.Char] 76] I h) ?_ ?_
      ·refine st 3 [] (k_ite H (fun c36 H => ?_) (fun c36 H => ?_))
       ·refine st 2 [] (k_op (lB (hs.bl d1) 7 rfl ?_))
        refine k_call H (fun _ m => shutterref05_Char.calls m) ?_
        rintro t37 _ _ H ⟨rfl, rfl⟩
        cases t37
        ·rw [cond_false] at H
         refine st 17 [true] ?_
         refine k_retQ (krJ ?_)
         obtain rfl := Option.some.inj H
         exact ⟨_, by kernel_rfl, I, _, ⟨rfl, rfl⟩, hs.pk .n⟩
        ·rw [cond_true] at H
         refine st 4 [] (k_val (.bool false) (pr_bool (by kernel_rfl) (neF c36)) ?_)
         refine st 9 [false] ?_
         exact k_end ⟨I, H, ⟨by kernel_rfl, by kernel_rfl, by kernel_rfl, trivial⟩, hs.pk (.c d0 (.c d0 .n))⟩
       ·refine st 8 [] (k_iteN H (fun c38 H => ?_) (fun c38 H => ?_))
        ·refine st 9 [false] ?_
         exact k_end ⟨I, H, ⟨by kernel_rfl, by kernel_rfl, by kernel_rfl, trivial⟩, hs.pk (.c d0 (.c d0 .n))⟩
        ·refine st 2 [] (k_op (lB (hs.bl d1) 7 rfl ?_))
         refine k_iteN H (fun c39 H => ?_) (fun c39 H => ?_)
         ·refine st 5 [false] ?_
          exact k_end ⟨I, H, ⟨by kernel_rfl, by kernel_rfl, by kernel_rfl, trivial⟩, hs.pk (.c d0 (.c d0 .n))⟩
         ·refine st 8 [true] ?_
          refine k_retQ (krJ ?_)
          obtain rfl := Option.some.inj H
          exact ⟨_, by kernel_rfl, I, _, ⟨rfl, rfl⟩, hs.pk .n⟩
      ·clear H
       rintro ρ h ⟨I, H, hf, hs⟩
       refine k_fits _ hf ?_ rfl
       subst e49
       try dsimp only at H
       refine st 1 [] ?_
       obtain ⟨j45, e48, H⟩ := letJ_some H
       refine k_join (fun ρ h => ∃ (I : Gh), j45 = some r ∧ Fits [(1, .int .i64 x1), (2, .pointer (some ⟨b25, 0, none⟩))] ρ ∧ St E [rR (tInt .u8) .b a21 p22 x0.Text.length x0.Text, rB b25 [.int .i64 x0.Kind, .slice a21 x0.Text.length p22, .bool x0.Attr.Protected, .bool x0.Attr.Numeric, .int .i64 x0.Attr.Show, .bool x0.Attr.Modified, .int .i64 x0.Addr, .int .u8 x0.Char] 76] I h) ?_ ?_
       ·refine st 3 [] (k_iteN H (fun c41 H => ?_) (fun c41 H => ?_))
        ·refine st 11 [false] ?_
         exact k_end ⟨I, H, ⟨by kernel_rfl, by kernel_rfl, trivial⟩, hs.pk (.c d0 (.c d0 .n))⟩
        ·refine st 2 [] (k_iteN H (fun c42 H => ?_) (fun c42 H => ?_))
         ·refine st 8 [false] ?_
          exact k_end ⟨I, H, ⟨by kernel_rfl, by kernel_rfl, trivial⟩, hs.pk (.c d0 (.c d0 .n))⟩
         ·refine st 3 [] (k_iteN H (fun c43 H => ?_) (fun c43 H => ?_))
          ·refine st 4 [false] ?_
           exact k_end ⟨I, H, ⟨by kernel_rfl, by kernel_rfl, trivial⟩, hs.pk (.c d0 (.c d0 .n))⟩
          ·refine st 7 [true] (k_op (lB (hs.bl d1) 6 rfl ?_))
           refine k_iteN H (fun c44 H => ?_) (fun c44 H => ?_)
           ·refine st 7 [false] ?_
            refine k_retQ (krJ ?_)
            obtain rfl := Option.some.inj H
            exact ⟨_, by kernel_rfl, I, _, ⟨rfl, rfl⟩, hs.pk .n⟩
           ·refine st 6 [true] ?_
            refine k_retQ (krJ ?_)
            obtain rfl := Option.some.inj H
            exact ⟨_, by kernel_rfl, I, _, ⟨rfl, rfl⟩, hs.pk .n⟩
       ·clear H
        rintro ρ h ⟨I, H, hf, hs⟩
        refine k_fits _ hf ?_ rfl
        subst e48
        try dsimp only at H
        refine st 4 [] (k_op (lB (hs.bl d1) 6 rfl ?_))
        refine k_ite H (fun c46 H => ?_) (fun c46 H => ?_)
        ·refine st 12 [true] ?_
         refine k_retQ ?_
         obtain rfl := Option.some.inj H
         exact ⟨_, by kernel_rfl, I, _, ⟨rfl, rfl⟩, hs.pk .n⟩
        ·refine st 2 [] (k_op (lB (hs.bl d1) 6 rfl ?_))
         refine st 1 [] (k_ite H (fun c47 H => ?_) (fun c47 H => ?_))
         ·refine st 7 [true] ?_
          refine k_retQ ?_
          obtain rfl := Option.some.inj H
          exact ⟨_, by kernel_rfl, I, _, ⟨rfl, rfl⟩, hs.pk .n⟩
         ·refine st 8 [false] ?_
          refine k_retQ ?_
          obtain rfl := Option.some.inj H
          exact ⟨_, by kernel_rfl, I, _, ⟨rfl, rfl⟩, hs.pk .n⟩

/-! shutter/shutterref04.Put -/
def shutterref04_Put.m (x0 : Int) (x1 : Int) : Option (List Int) :=
  (if x1 > 4096 then (some [(IntKind.u8.wrap ((w64 (Int.tdiv x0 256)))), (IntKind.u8.wrap ((Int.tmod x0 256)))]) else ((shutterref03_Put.m (w64 (Int.tdiv x0 64))).bind fun t24 => ((shutterref03_Put.m (Int.tmod x0 64)).bind fun t25 => (some [t24, t25]))))

theorem shutterref04_Put.calls {B I : Gh} {h : Heap} {x0 : Int} {x1 : Int} {r : (List Int)} (H : shutterref04_Put.m x0 x1 = some r)  :
    Fc Tryz.prog 36 #[.int .i64 x0, .int .i64 x1] [] B I h (fun v L => ∃ (a28 : Option Addr) (p29 : Nat) (n30 : Nat), v = .slice a28 n30 p29 ∧ L = [rO (tInt .u8) .i a28 p29 n30 r]) := by
 refine fc_of fun E hs => ?_
 unfold shutterref04_Put.m at H
 refine fn_of (args := [.int .i64 x0, .int .i64 x1]) (rs := [.tmp 4]) (N := 21) Tryz.func36 rfl rfl rfl rfl ?_
 refine st 8 [] (k_ite H (fun c21 H => ?_) (fun c21 H => ?_))
 ·refine st 10 [true] (k_op (nS (e := 5) hs .i (tInt .u8) ([(IntKind.u8.wrap ((w64 (Int.tdiv x0 256)))), (IntKind.u8.wrap ((Int.tmod x0 256)))] : List Int) [.int .u8 (IntKind.u8.wrap ((w64 (Int.tdiv x0 256)))), .int .u8 (IntKind.u8.wrap ((Int.tmod x0 256)))] 1 (.int .u8 0) (Reps.int (I := (Cl.G .i E.B I)) (k := .u8) (l := [(IntKind.u8.wrap ((w64 (Int.tdiv x0 256)))), (IntKind.u8.wrap ((Int.tmod x0 256)))])) ?_))
  intro b22 h hs
  refine st 2 [] ?_
  refine k_retQ ?_
  obtain rfl := Option.some.inj H
  exact ⟨_, by kernel_rfl, I, _, ⟨(some ⟨b22, 0, none⟩), 2, 2, rfl, rfl⟩, hs.pk (.c d0 .n)⟩
 ·refine st 7 [false] (k_call H (fun _ m => shutterref03_Put.calls m) ?_)
  rintro t24 _ _ H ⟨rfl, rfl⟩
  refine st 2 [] (k_call H (fun _ m => shutterref03_Put.calls m) ?_)
  rintro t25 _ _ H ⟨rfl, rfl⟩
  refine k_op (nS (e := 5) hs .i (tInt .u8) ([t24, t25] : List Int) [.int .u8 t24, .int .u8 t25] 1 (.int .u8 0) (Reps.int (I := (Cl.G .i E.B I)) (k := .u8) (l := [t24, t25])) ?_)
  intro b26 h hs
  refine st 2 [] ?_
  refine k_retQ ?_
  obtain rfl := Option.some.inj H
  exact ⟨_, by kernel_rfl, I, _, ⟨(some ⟨b26, 0, none⟩), 2, 2, rfl, rfl⟩, hs.pk (.c d0 .n)⟩

/-! shutter/shutterref05.Put -/
def shutterref05_Put.m (x0 : api_Attr) : Option Int :=
  (letJ (α := Int → Option Int) (fun (x23 : Int) => (bif x0.Numeric then (bif x0.Modified then ((shutterref03_Put.m (w64 ((w64 (x23 + 16)) + 1))).bind fun t27 => (some t27)) else ((shutterref03_Put.m (w64 (x23 + 16))).bind fun t28 => (some t28))) else (bif x0.Modified then ((shutterref03_Put.m (w64 (x23 + 1))).bind fun t30 => (some t30)) else ((shutterref03_Put.m x23).bind fun t31 => (some t31))))) fun (j24 : Int → Option Int) => (bif x0.Protected then (j24 (w64 ((w64 (4 * x0.Show)) + 32))) else (j24 (w64 (4 * x0.Show)))))

theorem shutterref05_Put.calls {B I : Gh} {h : Heap} {x0 : api_Attr} {r : Int} (H : shutterref05_Put.m x0 = some r)  :
    Fc Tryz.prog 77 #[.agg #[.bool x0.Protected, .bool x0.Numeric, .int .i64 x0.Show, .bool x0.Modified]] [] B I h (fun v L => v = .int .u8 r ∧ L = []) := by
 refine fc_of fun E hs => ?_
 unfold shutterref05_Put.m at H
 refine fn_of (args := [.agg #[.bool x0.Protected, .bool x0.Numeric, .int .i64 x0.Show, .bool x0.Modified]]) (rs := [.tmp 2]) (N := 21) Tryz.func77 rfl rfl rfl rfl ?_
 refine st 2 [] (k_op (nB hs [.bool x0.Protected, .bool x0.Numeric, .int .i64 x0.Show, .bool x0.Modified] ?_))
 intro b21 h hs
 refine st 5 [] (k_op (lB (hs.bl d0) 2 rfl ?_))
 refine st 4 [] ?_
 obtain ⟨j24, e32, H⟩ := letJ_some H
 refine k_join (fun ρ h => ∃ (x23 : Int) (I : Gh), j24 x23 = some r ∧ Fits [(1, .pointer (some ⟨b21, 0, none⟩)), (3, .int .i64 x23)] ρ ∧ St E [rB b21 [.bool x0.Protected, .bool x0.Numeric, .int .i64 x0.Show, .bool x0.Modified] 55] I h) ?_ ?_
 ·refine st 3 [] (k_op (lB (hs.bl d0) 0 rfl ?_))
  refine k_spl H (fun c22 H => ?_) (fun c22 H => ?_)
  ·refine st 7 [true] ?_
   exact k_end ⟨(w64 ((w64 (4 * x0.Show)) + 32)), I, H, ⟨by kernel_rfl, by kernel_rfl, trivial⟩, hs.pk (.c d0 .n)⟩
  ·refine st 3 [false] ?_
   exact k_end ⟨(w64 (4 * x0.Show)), I, H, ⟨by kernel_rfl, by kernel_rfl, trivial⟩, hs.pk (.c d0 .n)⟩
 ·clear H
  rintro ρ h ⟨x23, I, H, hf, hs⟩
  refine k_fits _ hf ?_ rfl
  subst e32
  try dsimp only at H
  refine st 4 [] (k_op (lB (hs.bl d0) 1 rfl ?_))
  refine k_spl H (fun c25 H => ?_) (fun c25 H => ?_)
  ·refine st 11 [true] (k_op (lB (hs.bl d0) 3 rfl ?_))
   refine k_spl H (fun c26 H => ?_) (fun c26 H => ?_)
   ·refine st 10 [true] (k_call H (fun _ m => shutterref03_Put.calls m) ?_)
    rintro t27 _ _ H ⟨rfl, rfl⟩
    refine st 2 [] ?_
    refine k_retQ ?_
    obtain rfl := Option.some.inj H
    exact ⟨_, by kernel_rfl, I, _, ⟨rfl, rfl⟩, hs.pk .n⟩
   ·refine st 6 [false] (k_call H (fun _ m => shutterref03_Put.calls m) ?_)
    rintro t28 _ _ H ⟨rfl, rfl⟩
    refine st 2 [] ?_
    refine k_retQ ?_
    obtain rfl := Option.some.inj H
    exact ⟨_, by kernel_rfl, I, _, ⟨rfl, rfl⟩, hs.pk .n⟩
  ·refine st 7 [false] (k_op (lB (hs.bl d0) 3 rfl ?_))
   refine k_spl H (fun c29 H => ?_) (fun c29 H => ?_)
   ·refine st 10 [true] (k_call H (fun _ m => shutterref03_Put.calls m) ?_)
    rintro t30 _ _ H ⟨rfl, rfl⟩
    refine st 2 [] ?_
    refine k_retQ ?_
    obtain rfl := Option.some.inj H
    exact ⟨_, by kernel_rfl, I, _, ⟨rfl, rfl⟩, hs.pk .n⟩
   ·refine st 6 [false] (k_call H (fun _ m => shutterref03_Put.calls m) ?_)
    rintro t31 _ _ H ⟨rfl, rfl⟩
    refine st 2 [] ?_
    refine k_retQ ?_
    obtain rfl := Option.some.inj H
    exact ⟨_, by kernel_rfl, I, _, ⟨rfl, rfl⟩, hs.pk .n⟩

end Go.Proofs.YtfbcjibdgicaoaaGreatDoor.Sx
