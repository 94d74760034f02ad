/- Printed walks, part 1: each function's model, and that the code comes to it. -/
import Derived.Test.YtpkcckaaocannaaDoorProg
import Derived.Test.YtpkcckaaocannaaDoorV4
import Derived.Test.YtpkcckaaocannaaDoorV5
import Derived.Test.YtpkcckaaocannaaDoorV6
import Derived.Test.YtpkcckaaocannaaDoorV7
import Derived.Test.YtpkcckaaocannaaDoorG0
namespace Go.Proofs.YtpkcckaaocannaaDoor.Sx
open Go
set_option maxRecDepth 100000
set_option maxHeartbeats 4000000

/-! shutter/shutterlaw18.awake -/
def shutterlaw18_awake.m (K : Nat)  : Option Bool :=
  ((read_Modified.m K (⟨1, 3, [(⟨true, (⟨false, false, 0, true⟩ : api_Attr), 0⟩ : api_Cell), (⟨false, (⟨false, false, 0, false⟩ : api_Attr), 193⟩ : api_Cell), (⟨false, (⟨false, false, 0, false⟩ : api_Attr), 0⟩ : api_Cell)], 2, false, false⟩ : api_Screen) 125).bind fun t24 => ((read_Image.m K (⟨1, 3, [(⟨true, (⟨false, false, 0, true⟩ : api_Attr), 0⟩ : api_Cell), (⟨false, (⟨false, false, 0, false⟩ : api_Attr), 193⟩ : api_Cell), (⟨false, (⟨false, false, 0, false⟩ : api_Attr), 0⟩ : api_Cell)], 2, false, false⟩ : api_Screen)).bind fun t32 => ((read_Modified.m K (⟨1, 3, [(⟨true, (⟨false, false, 0, true⟩ : api_Attr), 0⟩ : api_Cell), (⟨false, (⟨false, false, 0, false⟩ : api_Attr), 193⟩ : api_Cell), (⟨false, (⟨false, false, 0, false⟩ : api_Attr), 0⟩ : api_Cell)], 2, false, false⟩ : api_Screen) 96).bind fun t37 => (if t24.2 = GoErr.nil then (if t24.1.Cursor = 2 then (if (t24.1.Fields.length : Int) = 1 then (if 0 < (t24.1.Fields.length : Int) then (if (at_ t24.1.Fields 0).Addr = 1 then (if (((at_ t24.1.Fields 0).Text).length : Int) = 1 then (if (t32.length : Int) = 5 then ((api_Code.m t37.2).bind fun t62 => (some (t62 == 3))) else (some false)) else (some false)) else (some false)) else none) else (some false)) else (some false)) else (some false)))))

theorem shutterlaw18_awake.calls {B I : Gh} {h : Heap} {K : Nat} {r : Bool} (H : shutterlaw18_awake.m K = some r)  :
    Fc Tryd.prog 11 #[] [rG] B I h (fun v L => v = .bool r ∧ L = []) := by
 refine fc_of fun E hs => ?_
 unfold shutterlaw18_awake.m at H
 refine fn_of (args := []) (rs := [.tmp 0]) (N := 65) Tryd.func11 rfl rfl rfl rfl ?_
 refine st 10 [] (k_op (nS (e := 83) hs .i t_api_Cell ([(⟨true, (⟨false, false, 0, true⟩ : api_Attr), 0⟩ : api_Cell), (⟨false, (⟨false, false, 0, false⟩ : api_Attr), 193⟩ : api_Cell), (⟨false, (⟨false, false, 0, false⟩ : api_Attr), 0⟩ : api_Cell)] : List api_Cell) [.bool true, .bool false, .bool false, .int .i64 0, .bool true, .int .u8 0, .bool false, .bool false, .bool false, .int .i64 0, .bool false, .int .u8 193, .bool false, .bool false, .bool false, .int .i64 0, .bool false, .int .u8 0] 6 (.agg #[.bool false, .bool false, .bool false, .int .i64 0, .bool false, .int .u8 0]) (Reps.cons (T := t_api_Cell) (c := [.bool true, .bool false, .bool false, .int .i64 0, .bool true, .int .u8 0]) (x := (⟨true, (⟨false, false, 0, true⟩ : api_Attr), 0⟩ : api_Cell)) rfl (Reps.cons (T := t_api_Cell) (c := [.bool false, .bool false, .bool false, .int .i64 0, .bool false, .int .u8 193]) (x := (⟨false, (⟨false, false, 0, false⟩ : api_Attr), 193⟩ : api_Cell)) rfl (Reps.cons (T := t_api_Cell) (c := [.bool false, .bool false, .bool false, .int .i64 0, .bool false, .int .u8 0]) (x := (⟨false, (⟨false, false, 0, false⟩ : api_Attr), 0⟩ : api_Cell)) rfl (.nil : Reps t_api_Cell (Cl.G .i E.B I) h [] [])))) ?_))
 intro b21 h hs
 refine st 1 [] (k_op (nA hs [.int .i64 0, .int .i64 0, .slice none 0 0, .int .i64 0, .bool false, .bool false] (.agg #[.int .i64 0, .int .i64 0, .slice none 0 0, .int .i64 0, .bool false, .bool false]) ?_))
 intro b23 h hs
 refine k_op (sN hs 0 [.int .i64 1, .int .i64 3, .slice (some ⟨b21, 0, none⟩) 3 3, .int .i64 2, .bool false, .bool false] [.int .i64 1, .int .i64 3, .slice (some ⟨b21, 0, none⟩) 3 3, .int .i64 2, .bool false, .bool false] (ones_of rfl) ?_)
 intro h hs
 refine st 3 [] (k_op (lN (hs.bl d0) 0 6 ?_))
 obtain ⟨hk, bk⟩ := hs.call tk0 (.c (qO d1) .n)
 refine k_call H (fun _ m => read_Modified.calls m hk) ?_
 rintro t24 _ h H ⟨I, _, ⟨a25, p26, n27, v29, rfl, rfl⟩, hk⟩
 replace hs := bk hk ct2 rfl
 obtain rfl := hs.nO d0
 refine st 3 [] (k_op (nA hs [.int .u8 0, .int .i64 0, .slice none 0 0] (.agg #[.int .u8 0, .int .i64 0, .slice none 0 0]) ?_))
 intro b31 h hs
 refine k_op (sN hs 0 [.int .u8 t24.1.Aid, .int .i64 t24.1.Cursor, .slice a25 t24.1.Fields.length p26] [.int .u8 t24.1.Aid, .int .i64 t24.1.Cursor, .slice a25 t24.1.Fields.length p26] (ones_of rfl) ?_)
 intro h hs
 refine st 4 [] (k_op (lN (hs.bl d3) 0 6 ?_))
 obtain ⟨hk, bk⟩ := hs.call tk0 (.c (qO d4) .n)
 refine k_call H (fun _ m => read_Image.calls m hk) ?_
 rintro t32 _ h H ⟨I, _, ⟨a33, p34, n35, rfl, rfl⟩, hk⟩
 replace hs := bk hk ct1 rfl
 obtain rfl := hs.nO d0
 refine st 4 [] (k_op (lN (hs.bl d4) 0 6 ?_))
 obtain ⟨hk, bk⟩ := hs.call tk0 (.c (qO d5) .n)
 refine k_call H (fun _ m => read_Modified.calls m hk) ?_
 rintro t37 _ h H ⟨I, _, ⟨a38, p39, n40, v42, rfl, rfl⟩, hk⟩
 replace hs := bk hk ct2 rfl
 obtain rfl := hs.nO d0
 refine st 3 [] (k_op (nA hs [.int .u8 0, .int .i64 0, .slice none 0 0] (.agg #[.int .u8 0, .int .i64 0, .slice none 0 0]) ?_))
 intro b44 h hs
 refine k_op (sN hs 0 [.int .u8 t37.1.Aid, .int .i64 t37.1.Cursor, .slice a38 t37.1.Fields.length p39] [.int .u8 t37.1.Aid, .int .i64 t37.1.Cursor, .slice a38 t37.1.Fields.length p39] (ones_of rfl) ?_)
 intro h hs
 rcases (hs.er d6).cases with ⟨c45, rfl⟩ | ⟨c45, t46, u47, rfl⟩
 ·rw [if_pos c45] at H
  refine st 8 [] (k_op (lB (hs.bl d4) 1 rfl ?_))
  refine k_ite H (fun c48 H => ?_) (fun c48 H => ?_)
  ·refine st 3 [] (k_op (lB (hs.bl d4) 2 rfl ?_))
   refine st 1 [] (k_ite H (fun c49 H => ?_) (fun c49 H => ?_))
   ·refine st 3 [] (k_op (lB (hs.bl d4) 2 rfl ?_))
    obtain ⟨c50, H⟩ := guard_pos H
    refine k_val (elemPtr a25 ((0 : Int).toNat * 2)) (pI (e := 53) (ik := .i64) (hs.sO d5) (by decide) c50) ?_
    refine k_val (elemPtr a25 ((0 : Int).toNat * 2 + 0)) (pF (off := 0) (hs.sO d5) (by decide) c50) ?_
    obtain ⟨y52, g51, q53⟩ := (hs.sO d5).toSl.seg (by decide) c50
    obtain ⟨a54, p55, n56, rfl, q58⟩ := t_api_Entry.open_ q53
    obtain rfl := q58.2
    replace hs := hs.pR q58
    refine k_op (lC (seg_cell (f := 0) g51 rfl) ?_)
    refine k_ite H (fun c59 H => ?_) (fun c59 H => ?_)
    ·refine st 3 [] (k_op (lB (hs.bl d5) 2 rfl ?_))
     refine k_val (elemPtr a25 ((0 : Int).toNat * 2)) (pI (e := 53) (ik := .i64) (hs.sO d6) (by decide) c50) ?_
     refine k_val (elemPtr a25 ((0 : Int).toNat * 2 + 1)) (pF (off := 1) (hs.sO d6) (by decide) c50) ?_
     refine k_op (lC (seg_cell (f := 1) g51 rfl) ?_)
     refine st 1 [] (k_ite H (fun c60 H => ?_) (fun c60 H => ?_))
     ·refine st 4 [] (k_ite H (fun c61 H => ?_) (fun c61 H => ?_))
      ·obtain ⟨hk, bk⟩ := hs.call tk0 (.c (xI d3) (.c (gK d10) .n))
       refine st 3 [] (k_call H (fun _ m => api_Code.calls m hk) ?_)
       rintro t62 _ h H ⟨I, _, ⟨rfl, rfl⟩, hk⟩
       replace hs := bk hk ct0 rfl
       refine st 4 [] ?_
       refine k_retQ ?_
       obtain rfl := Option.some.inj H
       exact ⟨_, by kernel_rfl, I, _, ⟨rfl, rfl⟩, hs.pk .n⟩
      ·refine st 8 [] ?_
       refine k_retQ ?_
       obtain rfl := Option.some.inj H
       exact ⟨_, by kernel_rfl, I, _, ⟨rfl, rfl⟩, hs.pk .n⟩
     ·refine st 13 [] ?_
      refine k_retQ ?_
      obtain rfl := Option.some.inj H
      exact ⟨_, by kernel_rfl, I, _, ⟨rfl, rfl⟩, hs.pk .n⟩
    ·refine st 22 [] ?_
     refine k_retQ ?_
     obtain rfl := Option.some.inj H
     exact ⟨_, by kernel_rfl, I, _, ⟨rfl, rfl⟩, hs.pk .n⟩
   ·refine st 30 [] ?_
    refine k_retQ ?_
    obtain rfl := Option.some.inj H
    exact ⟨_, by kernel_rfl, I, _, ⟨rfl, rfl⟩, hs.pk .n⟩
  ·refine st 36 [] ?_
   refine k_retQ ?_
   obtain rfl := Option.some.inj H
   exact ⟨_, by kernel_rfl, I, _, ⟨rfl, rfl⟩, hs.pk .n⟩
 ·rw [if_neg c45] at H
  refine st 46 [] ?_
  refine k_retQ ?_
  obtain rfl := Option.some.inj H
  exact ⟨_, by kernel_rfl, I, _, ⟨rfl, rfl⟩, hs.pk .n⟩

/-! shutter/shutterref10.Sized -/
def shutterref10_Sized.m (x0 : Int) (x1 : Int) : Option Bool :=
  (if x0 ≥ 1 then (if x1 ≥ 1 then (if x0 ≤ 16383 then (if x1 ≤ 16383 then (some (decide ((w64 (x0 * x1)) ≤ 16383))) else (some false)) else (some false)) else (some false)) else (some false))

theorem shutterref10_Sized.calls {x0 : Int} {x1 : Int} {h : Heap} {r : Bool} (H : shutterref10_Sized.m x0 x1 = some r)   :
    Ret Tryd.prog 62 #[.int .i64 x0, .int .i64 x1] h (fun v h' => .bool r = v ∧ h' = h) := by
 unfold shutterref10_Sized.m at H
 refine fn_of (args := [.int .i64 x0, .int .i64 x1]) (rs := [.tmp 4]) (N := 25) Tryd.func62 rfl rfl rfl rfl ?_
 refine st 7 [] (k_ite H (fun c21 H => ?_) (fun c21 H => ?_))
 ·refine st 2 [] (k_ite H (fun c22 H => ?_) (fun c22 H => ?_))
  ·refine st 3 [] (k_ite H (fun c23 H => ?_) (fun c23 H => ?_))
   ·refine st 3 [] (k_ite H (fun c24 H => ?_) (fun c24 H => ?_))
    ·refine st 9 [] ?_
     refine k_retQ ?_
     obtain rfl := Option.some.inj H
     exact ⟨_, by kernel_rfl, rfl, rfl⟩
    ·refine st 9 [] ?_
     refine k_retQ ?_
     obtain rfl := Option.some.inj H
     exact ⟨_, by kernel_rfl, rfl, rfl⟩
   ·refine st 13 [] ?_
    refine k_retQ ?_
    obtain rfl := Option.some.inj H
    exact ⟨_, by kernel_rfl, rfl, rfl⟩
  ·refine st 17 [] ?_
   refine k_retQ ?_
   obtain rfl := Option.some.inj H
   exact ⟨_, by kernel_rfl, rfl, rfl⟩
 ·refine st 20 [] ?_
  refine k_retQ ?_
  obtain rfl := Option.some.inj H
  exact ⟨_, by kernel_rfl, rfl, rfl⟩

/-! shutter/shutterref05.Char -/
def shutterref05_Char.m (x0 : Int) : Option Bool :=
  (if x0 = 0 then (some true) else (if x0 = 28 then (some true) else (if x0 = 30 then (some true) else (if x0 ≥ 64 then (some (decide (x0 ≤ 254))) else (some false)))))

theorem shutterref05_Char.calls {x0 : Int} {h : Heap} {r : Bool} (H : shutterref05_Char.m x0 = some r)   :
    Ret Tryd.prog 72 #[.int .u8 x0] h (fun v h' => .bool r = v ∧ h' = h) := by
 unfold shutterref05_Char.m at H
 refine fn_of (args := [.int .u8 x0]) (rs := [.tmp 2]) (N := 21) Tryd.func72 rfl rfl rfl rfl ?_
 refine st 7 [] (k_ite H (fun c21 H => ?_) (fun c21 H => ?_))
 ·refine st 18 [] ?_
  refine k_retQ ?_
  obtain rfl := Option.some.inj H
  exact ⟨_, by kernel_rfl, rfl, rfl⟩
 ·refine st 2 [] (k_ite H (fun c22 H => ?_) (fun c22 H => ?_))
  ·refine st 15 [] ?_
   refine k_retQ ?_
   obtain rfl := Option.some.inj H
   exact ⟨_, by kernel_rfl, rfl, rfl⟩
  ·refine st 3 [] (k_ite H (fun c23 H => ?_) (fun c23 H => ?_))
   ·refine st 11 [] ?_
    refine k_retQ ?_
    obtain rfl := Option.some.inj H
    exact ⟨_, by kernel_rfl, rfl, rfl⟩
   ·refine st 3 [] (k_ite H (fun c24 H => ?_) (fun c24 H => ?_))
    ·refine st 7 [] ?_
     refine k_retQ ?_
     obtain rfl := Option.some.inj H
     exact ⟨_, by kernel_rfl, rfl, rfl⟩
    ·refine st 7 [] ?_
     refine k_retQ ?_
     obtain rfl := Option.some.inj H
     exact ⟨_, by kernel_rfl, rfl, rfl⟩

/-! shutter/shutterref10.Cell -/
def shutterref10_Cell.m (x0 : api_Cell) : Option Bool :=
  (letJ (α := Bool → Option Bool) (fun (x23 : Bool) => (bif x23 then (if x0.Char = 0 then (if x0.Attr.Show ≥ 0 then (some (decide (x0.Attr.Show ≤ 3))) else (some false)) else (some false)) else (bif ((x0.Attr.Protected == false) && ((x0.Attr.Numeric == false) && ((x0.Attr.Show == 0) && ((x0.Attr.Modified == false) && true)))) then ((shutterref05_Char.m x0.Char).bind fun t28 => (some t28)) else (some false)))) fun (j24 : Bool → Option Bool) => (bif x0.Field then (j24 true) else (j24 false)))

theorem shutterref10_Cell.calls {B I : Gh} {h : Heap} {x0 : api_Cell} {r : Bool} (H : shutterref10_Cell.m x0 = some r)  :
    Fc Tryd.prog 63 #[.agg #[.bool x0.Field, .bool x0.Attr.Protected, .bool x0.Attr.Numeric, .int .i64 x0.Attr.Show, .bool x0.Attr.Modified, .int .u8 x0.Char]] [] B I h (fun v L => v = .bool r ∧ L = []) := by
 refine fc_of fun E hs => ?_
 unfold shutterref10_Cell.m at H
 refine fn_of (args := [.agg #[.bool x0.Field, .bool x0.Attr.Protected, .bool x0.Attr.Numeric, .int .i64 x0.Attr.Show, .bool x0.Attr.Modified, .int .u8 x0.Char]]) (rs := [.tmp 2]) (N := 29) Tryd.func63 rfl rfl rfl rfl ?_
 refine st 2 [] (k_op (nB hs [.bool x0.Field, .bool x0.Attr.Protected, .bool x0.Attr.Numeric, .int .i64 x0.Attr.Show, .bool x0.Attr.Modified, .int .u8 x0.Char] ?_))
 intro b21 h hs
 refine st 4 [] ?_
 obtain ⟨j24, e29, H⟩ := letJ_some H
 refine k_join (fun ρ h => ∃ (x23 : Bool) (I : Gh), j24 x23 = some r ∧ Fits [(1, .pointer (some ⟨b21, 0, none⟩)), (4, .bool x23)] ρ ∧ St E [rB b21 [.bool x0.Field, .bool x0.Attr.Protected, .bool x0.Attr.Numeric, .int .i64 x0.Attr.Show, .bool x0.Attr.Modified, .int .u8 x0.Char] 83] I h) ?_ ?_
 ·refine st 2 [] (k_op (lB (hs.bl d0) 0 rfl ?_))
  refine k_spl H (fun c22 H => ?_) (fun c22 H => ?_)
  ·refine st 1 [] ?_
   exact k_end ⟨true, I, H, ⟨by kernel_rfl, by kernel_rfl, trivial⟩, hs.pk (.c d0 .n)⟩
  ·refine st 1 [] ?_
   exact k_end ⟨false, I, H, ⟨by kernel_rfl, by kernel_rfl, trivial⟩, hs.pk (.c d0 .n)⟩
 ·clear H
  rintro ρ h ⟨x23, I, H, hf, hs⟩
  refine k_fits _ hf ?_ rfl
  subst e29
  try dsimp only at H
  cases x23
  ·rw [cond_false] at H
   refine st 5 [false] (k_op (lN (hs.bl d0) 1 4 ?_))
   rcases bool_or ((x0.Attr.Protected == false) && ((x0.Attr.Numeric == false) && ((x0.Attr.Show == 0) && ((x0.Attr.Modified == false) && true)))) with c27 | c27
   ·replace H := bif_f c27 H
    refine st 1 [] (k_op (owp_run (.bool false) (run_bool (run_eqAgg (xs := #[.bool x0.Attr.Protected, .bool x0.Attr.Numeric, .int .i64 x0.Attr.Show, .bool x0.Attr.Modified]) (ys := #[.bool false, .bool false, .int .i64 0, .bool false]) (by kernel_rfl) (by kernel_rfl) (by kernel_rfl) (eqB_run (b := ((x0.Attr.Protected == false) && ((x0.Attr.Numeric == false) && ((x0.Attr.Show == 0) && ((x0.Attr.Modified == false) && true))))) (by kernel_rfl))) c27) ?_))
    refine st 7 [] ?_
    refine k_retQ ?_
    obtain rfl := Option.some.inj H
    exact ⟨_, by kernel_rfl, I, _, ⟨rfl, rfl⟩, hs.pk .n⟩
   ·replace H := bif_t c27 H
    refine st 1 [] (k_op (owp_run (.bool true) (run_bool (run_eqAgg (xs := #[.bool x0.Attr.Protected, .bool x0.Attr.Numeric, .int .i64 x0.Attr.Show, .bool x0.Attr.Modified]) (ys := #[.bool false, .bool false, .int .i64 0, .bool false]) (by kernel_rfl) (by kernel_rfl) (by kernel_rfl) (eqB_run (b := ((x0.Attr.Protected == false) && ((x0.Attr.Numeric == false) && ((x0.Attr.Show == 0) && ((x0.Attr.Modified == false) && true))))) (by kernel_rfl))) c27) ?_))
    refine st 2 [] (k_op (lB (hs.bl d0) 5 rfl ?_))
    refine k_call H (fun _ m => shutterref05_Char.calls m) ?_
    rintro t28 _ _ H ⟨rfl, rfl⟩
    refine st 3 [] ?_
    refine k_retQ ?_
    obtain rfl := Option.some.inj H
    exact ⟨_, by kernel_rfl, I, _, ⟨rfl, rfl⟩, hs.pk .n⟩
  ·rw [cond_true] at H
   refine st 4 [true] (k_op (lB (hs.bl d0) 5 rfl ?_))
   refine k_ite H (fun c25 H => ?_) (fun c25 H => ?_)
   ·refine st 3 [] (k_op (lB (hs.bl d0) 3 rfl ?_))
    refine k_ite H (fun c26 H => ?_) (fun c26 H => ?_)
    ·refine st 4 [] (k_op (lB (hs.bl d0) 3 rfl ?_))
     refine st 4 [] ?_
     refine k_retQ ?_
     obtain rfl := Option.some.inj H
     exact ⟨_, by kernel_rfl, I, _, ⟨rfl, rfl⟩, hs.pk .n⟩
    ·refine st 9 [] ?_
     refine k_retQ ?_
     obtain rfl := Option.some.inj H
     exact ⟨_, by kernel_rfl, I, _, ⟨rfl, rfl⟩, hs.pk .n⟩
   ·refine st 14 [] ?_
    refine k_retQ ?_
    obtain rfl := Option.some.inj H
    exact ⟨_, by kernel_rfl, I, _, ⟨rfl, rfl⟩, hs.pk .n⟩

/-! shutter/shutterref10.Right -/
def shutterref10_Right.l1.m (K : Nat) (x0 : api_Screen) : Nat → Int → Option (Bool ⊕ (Unit))
  | 0, _ => none
  | k + 1, x30 => (if x30 < (x0.Cells.length : Int) then (if 0 ≤ x30 then ((shutterref10_Cell.m (⟨(at_ x0.Cells x30).Field, ((at_ x0.Cells x30).Attr), (at_ x0.Cells x30).Char⟩ : api_Cell)).bind fun t39 => bif t39 then (shutterref10_Right.l1.m K x0 k (w64 (x30 + 1))) else (some (Sum.inl false))) else none) else (some (Sum.inr ())))
def shutterref10_Right.m (K : Nat) (x0 : api_Screen) : Option Bool :=
  ((shutterref10_Sized.m x0.Rows x0.Cols).bind fun t26 => bif t26 then (if (x0.Cells.length : Int) = (w64 (x0.Rows * x0.Cols)) then (if x0.Cursor < 0 then (some false) else (if x0.Cursor ≥ (x0.Cells.length : Int) then (some false) else ((shutterref10_Right.l1.m K x0 K 0).bind fun s31 => match s31 with | .inl q => (some q) | .inr _ => (some true)))) else (some false)) else (some false))

theorem shutterref10_Right.calls {B I : Gh} {h : Heap} {K : Nat} {x0 : api_Screen} {a21 : Option Addr} {p22 : Nat} {n23 : Nat} {r : Bool} (H : shutterref10_Right.m K x0 = some r)  :
    Fc Tryd.prog 33 #[.agg #[.int .i64 x0.Rows, .int .i64 x0.Cols, .slice a21 n23 p22, .int .i64 x0.Cursor, .bool x0.Locked, .bool x0.Insert]] [rR t_api_Cell .b a21 p22 n23 x0.Cells] B I h (fun v L => v = .bool r ∧ L = []) := by
 refine fc_of fun E hs => ?_
 unfold shutterref10_Right.m at H
 obtain rfl := hs.nR d0
 refine fn_of (args := [.agg #[.int .i64 x0.Rows, .int .i64 x0.Cols, .slice a21 x0.Cells.length p22, .int .i64 x0.Cursor, .bool x0.Locked, .bool x0.Insert]]) (rs := [.tmp 2]) (N := 48) Tryd.func33 rfl rfl rfl rfl ?_
 refine st 2 [] (k_op (nB hs [.int .i64 x0.Rows, .int .i64 x0.Cols, .slice a21 x0.Cells.length p22, .int .i64 x0.Cursor, .bool x0.Locked, .bool x0.Insert] ?_))
 intro b25 h hs
 refine st 6 [] (k_op (lB (hs.bl d0) 0 rfl ?_))
 refine st 1 [] (k_op (lB (hs.bl d0) 1 rfl ?_))
 refine k_call H (fun _ m => shutterref10_Sized.calls m) ?_
 rintro t26 _ _ H ⟨rfl, rfl⟩
 cases t26
 ·rw [cond_false] at H
  refine st 31 [true] ?_
  refine k_retQ ?_
  obtain rfl := Option.some.inj H
  exact ⟨_, by kernel_rfl, I, _, ⟨rfl, rfl⟩, hs.pk .n⟩
 ·rw [cond_true] at H
  refine st 3 [] (k_op (lB (hs.bl d0) 2 rfl ?_))
  refine st 2 [] (k_op (lB (hs.bl d0) 0 rfl ?_))
  refine st 1 [] (k_op (lB (hs.bl d0) 1 rfl ?_))
  refine st 1 [] (k_iteN H (fun c27 H => ?_) (fun c27 H => ?_))
  ·refine st 3 [] (k_op (lB (hs.bl d0) 3 rfl ?_))
   refine k_ite H (fun c28 H => ?_) (fun c28 H => ?_)
   ·refine st 15 [true] ?_
    refine k_retQ ?_
    obtain rfl := Option.some.inj H
    exact ⟨_, by kernel_rfl, I, _, ⟨rfl, rfl⟩, hs.pk .n⟩
   ·refine st 3 [] (k_op (lB (hs.bl d0) 3 rfl ?_))
    refine st 1 [] (k_op (lB (hs.bl d0) 2 rfl ?_))
    refine st 1 [] (k_ite H (fun c29 H => ?_) (fun c29 H => ?_))
    ·refine st 7 [true] ?_
     refine k_retQ ?_
     obtain rfl := Option.some.inj H
     exact ⟨_, by kernel_rfl, I, _, ⟨rfl, rfl⟩, hs.pk .n⟩
    ·refine st 10 [false] ?_
     obtain ⟨s31, m33, HR32⟩ := bind_some H
     refine k_loop 0 (fun k' ρ h => ∃ (x30 : Int) (I : Gh), shutterref10_Right.l1.m K x0 k' x30 = some s31 ∧ Fits [(1, .pointer (some ⟨b25, 0, none⟩)), (3, .int .i64 x30)] ρ ∧ St E [rR t_api_Cell .b a21 p22 x0.Cells.length x0.Cells, rB b25 [.int .i64 x0.Rows, .int .i64 x0.Cols, .slice a21 x0.Cells.length p22, .int .i64 x0.Cursor, .bool x0.Locked, .bool x0.Insert] 24] I h) (fun ρ h => ∃ (I : Gh), Sum.inr () = s31 ∧ Fits [] ρ ∧ St E [] I h) K ⟨0, I, m33, ⟨by kernel_rfl, by kernel_rfl, trivial⟩, hs.pk (.c d1 (.c d0 .n))⟩ ?_ rfl ?_
     ·clear m33 H
      rintro k' ρ h ⟨x30, I, H, hf, hs⟩
      cases k' with
      | zero => cases H
      | succ k =>
       rw [shutterref10_Right.l1.m] at H
       refine k_fits _ hf ?_ rfl
       refine st 5 [] (k_op (lB (hs.bl d1) 2 rfl ?_))
       refine st 1 [] (k_ite H (fun c34 H => ?_) (fun c34 H => ?_))
       ·refine st 8 [true] (k_op (lB (hs.bl d1) 2 rfl ?_))
        obtain ⟨c35, H⟩ := guard_pos H
        refine st 1 [] (k_val (elemPtr a21 (x30.toNat * 6)) (pI (e := 83) (ik := .i64) (hs.sR d0) c35 c34) ?_)
        obtain ⟨y37, g36, q38⟩ := (hs.sR d0).toSl.seg c35 c34
        obtain rfl := t_api_Cell.open_ q38
        refine k_op (lG g36 ?_)
        obtain ⟨hk, bk⟩ := hs.call tk0 .n
        refine k_call H (fun _ m => shutterref10_Cell.calls m hk) ?_
        rintro t39 _ h H ⟨I, _, ⟨rfl, rfl⟩, hk⟩
        replace hs := bk hk ct0 rfl
        cases t39
        ·rw [cond_false] at H
         refine st 7 [true] ?_
         refine k_retQ (krL ?_)
         obtain rfl := Option.some.inj H
         obtain rfl := Option.some.inj HR32
         exact ⟨_, by kernel_rfl, I, _, ⟨rfl, rfl⟩, hs.pk .n⟩
        ·rw [cond_true] at H
         refine st 10 [false] ?_
         exact k_endL ⟨k, Nat.lt_succ_self _, (w64 (x30 + 1)), I, H, ⟨by kernel_rfl, by kernel_rfl, trivial⟩, hs.pk (.c d0 (.c d0 .n))⟩
       ·refine st 2 [false] ?_
        refine k_out rfl ?_
        obtain rfl := Option.some.inj H
        exact xE ⟨I, rfl, trivial, hs.pk .n⟩
     ·rintro ρ h ⟨I, rfl, hf, hs⟩
      have H := HR32
      try dsimp only at H
      refine k_fits _ hf ?_ rfl
      refine st 4 [] ?_
      refine k_retQ ?_
      obtain rfl := Option.some.inj H
      exact ⟨_, by kernel_rfl, I, _, ⟨rfl, rfl⟩, hs.pk .n⟩
  ·refine st 20 [true] ?_
   refine k_retQ ?_
   obtain rfl := Option.some.inj H
   exact ⟨_, by kernel_rfl, I, _, ⟨rfl, rfl⟩, hs.pk .n⟩

/-! shutter/shutterref10.Few -/
def shutterref10_Few.m (K : Nat) (x0 : api_Screen) : Option Bool :=
  (if (x0.Cells.length : Int) ≤ 200 then ((shutterref10_Right.m K x0).bind fun t27 => (some t27)) else (some false))

theorem shutterref10_Few.calls {B I : Gh} {h : Heap} {K : Nat} {x0 : api_Screen} {a21 : Option Addr} {p22 : Nat} {n23 : Nat} {r : Bool} (H : shutterref10_Few.m K x0 = some r)  :
    Fc Tryd.prog 12 #[.agg #[.int .i64 x0.Rows, .int .i64 x0.Cols, .slice a21 n23 p22, .int .i64 x0.Cursor, .bool x0.Locked, .bool x0.Insert]] [rR t_api_Cell .b a21 p22 n23 x0.Cells] B I h (fun v L => v = .bool r ∧ L = []) := by
 refine fc_of fun E hs => ?_
 unfold shutterref10_Few.m at H
 obtain rfl := hs.nR d0
 refine fn_of (args := [.agg #[.int .i64 x0.Rows, .int .i64 x0.Cols, .slice a21 x0.Cells.length p22, .int .i64 x0.Cursor, .bool x0.Locked, .bool x0.Insert]]) (rs := [.tmp 2]) (N := 11) Tryd.func12 rfl rfl rfl rfl ?_
 refine st 2 [] (k_op (nB hs [.int .i64 x0.Rows, .int .i64 x0.Cols, .slice a21 x0.Cells.length p22, .int .i64 x0.Cursor, .bool x0.Locked, .bool x0.Insert] ?_))
 intro b25 h hs
 refine st 5 [] (k_op (lB (hs.bl d0) 2 rfl ?_))
 refine st 1 [] (k_ite H (fun c26 H => ?_) (fun c26 H => ?_))
 ·refine st 1 [] (k_op (lN (hs.bl d0) 0 6 ?_))
  obtain ⟨hk, bk⟩ := hs.call tk0 (.c (qB d1) .n)
  refine k_call H (fun _ m => shutterref10_Right.calls m hk) ?_
  rintro t27 _ h H ⟨I, _, ⟨rfl, rfl⟩, hk⟩
  replace hs := bk hk ct0 rfl
  refine st 3 [] ?_
  refine k_retQ ?_
  obtain rfl := Option.some.inj H
  exact ⟨_, by kernel_rfl, I, _, ⟨rfl, rfl⟩, hs.pk .n⟩
 ·refine st 6 [] ?_
  refine k_retQ ?_
  obtain rfl := Option.some.inj H
  exact ⟨_, by kernel_rfl, I, _, ⟨rfl, rfl⟩, hs.pk .n⟩

/-! shutter/shutterref05.Bare -/
def shutterref05_Bare.m (x0 : Int) : Option Bool :=
  (if x0 = 109 then (some true) else (if x0 = 108 then (some true) else (if x0 = 110 then (some true) else (some (x0 == 107)))))

theorem shutterref05_Bare.calls {x0 : Int} {h : Heap} {r : Bool} (H : shutterref05_Bare.m x0 = some r)   :
    Ret Tryd.prog 41 #[.int .u8 x0] h (fun v h' => .bool r = v ∧ h' = h) := by
 unfold shutterref05_Bare.m at H
 refine fn_of (args := [.int .u8 x0]) (rs := [.tmp 2]) (N := 17) Tryd.func41 rfl rfl rfl rfl ?_
 refine st 7 [] (k_ite H (fun c21 H => ?_) (fun c21 H => ?_))
 ·refine st 14 [] ?_
  refine k_retQ ?_
  obtain rfl := Option.some.inj H
  exact ⟨_, by kernel_rfl, rfl, rfl⟩
 ·refine st 2 [] (k_ite H (fun c22 H => ?_) (fun c22 H => ?_))
  ·refine st 11 [] ?_
   refine k_retQ ?_
   obtain rfl := Option.some.inj H
   exact ⟨_, by kernel_rfl, rfl, rfl⟩
  ·refine st 3 [] (k_ite H (fun c23 H => ?_) (fun c23 H => ?_))
   ·refine st 7 [] ?_
    refine k_retQ ?_
    obtain rfl := Option.some.inj H
    exact ⟨_, by kernel_rfl, rfl, rfl⟩
   ·refine st 7 [] ?_
    refine k_retQ ?_
    obtain rfl := Option.some.inj H
    exact ⟨_, by kernel_rfl, rfl, rfl⟩

/-! shutter/shutterref05.Aid -/
def shutterref05_Aid.m (x0 : Int) : Option Bool :=
  ((shutterref05_Bare.m x0).bind fun t21 => bif t21 then (some true) else (if x0 = 125 then (some true) else (if x0 ≥ 241 then (if x0 ≤ 249 then (some true) else (if x0 ≥ 122 then (some (decide (x0 ≤ 124))) else (some false))) else (if x0 ≥ 122 then (some (decide (x0 ≤ 124))) else (some false)))))

theorem shutterref05_Aid.calls {x0 : Int} {h : Heap} {r : Bool} (H : shutterref05_Aid.m x0 = some r)   :
    Ret Tryd.prog 14 #[.int .u8 x0] h (fun v h' => .bool r = v ∧ h' = h) := by
 unfold shutterref05_Aid.m at H
 refine fn_of (args := [.int .u8 x0]) (rs := [.tmp 2]) (N := 25) Tryd.func14 rfl rfl rfl rfl ?_
 refine st 7 [] (k_call H (fun _ m => shutterref05_Bare.calls m) ?_)
 rintro t21 _ _ H ⟨rfl, rfl⟩
 cases t21
 ·rw [cond_false] at H
  refine st 2 [] (k_ite H (fun c22 H => ?_) (fun c22 H => ?_))
  ·refine st 19 [] ?_
   refine k_retQ ?_
   obtain rfl := Option.some.inj H
   exact ⟨_, by kernel_rfl, rfl, rfl⟩
  ·refine st 3 [] (k_ite H (fun c23 H => ?_) (fun c23 H => ?_))
   ·refine st 2 [] (k_ite H (fun c24 H => ?_) (fun c24 H => ?_))
    ·refine st 12 [] ?_
     refine k_retQ ?_
     obtain rfl := Option.some.inj H
     exact ⟨_, by kernel_rfl, rfl, rfl⟩
    ·refine st 4 [] (k_ite H (fun c25 H => ?_) (fun c25 H => ?_))
     ·refine st 7 [] ?_
      refine k_retQ ?_
      obtain rfl := Option.some.inj H
      exact ⟨_, by kernel_rfl, rfl, rfl⟩
     ·refine st 7 [] ?_
      refine k_retQ ?_
      obtain rfl := Option.some.inj H
      exact ⟨_, by kernel_rfl, rfl, rfl⟩
   ·refine st 7 [] (k_ite H (fun c26 H => ?_) (fun c26 H => ?_))
    ·refine st 7 [] ?_
     refine k_retQ ?_
     obtain rfl := Option.some.inj H
     exact ⟨_, by kernel_rfl, rfl, rfl⟩
    ·refine st 7 [] ?_
     refine k_retQ ?_
     obtain rfl := Option.some.inj H
     exact ⟨_, by kernel_rfl, rfl, rfl⟩
 ·rw [cond_true] at H
  refine st 22 [] ?_
  refine k_retQ ?_
  obtain rfl := Option.some.inj H
  exact ⟨_, by kernel_rfl, rfl, rfl⟩

/-! shutter/shutterref01.Same -/
def shutterref01_Same.l1.m (K : Nat) (x0 : (List Int)) (x1 : (List Int)) : Nat → Int → Option (Bool ⊕ (Unit))
  | 0, _ => none
  | k + 1, x32 => (if x32 < (x0.length : Int) then (if 0 ≤ x32 then (if x32 < (x1.length : Int) then (if (at_ x0 x32) = (at_ x1 x32) then (shutterref01_Same.l1.m K x0 x1 k (w64 (x32 + 1))) else (some (Sum.inl false))) else none) else none) else (some (Sum.inr ())))
def shutterref01_Same.m (K : Nat) (x0 : (List Int)) (x1 : (List Int)) : Option Bool :=
  (if (x0.length : Int) = (x1.length : Int) then ((shutterref01_Same.l1.m K x0 x1 K 0).bind fun s33 => match s33 with | .inl q => (some q) | .inr _ => (some true)) else (some false))

theorem shutterref01_Same.calls {G : Gh} {K : Nat} {x0 : (List Int)} {x1 : (List Int)} {a21 : Option Addr} {p22 : Nat} {n23 : Nat} {a25 : Option Addr} {p26 : Nat} {n27 : Nat} {h : Heap} {r : Bool} (H : shutterref01_Same.m K x0 x1 = some r)  (s29 : Sn (tInt .u8) G h a21 p22 n23 x0) (s30 : Sn (tInt .u8) G h a25 p26 n27 x1) :
    Ret Tryd.prog 29 #[.slice a21 n23 p22, .slice a25 n27 p26] h (fun v h' => .bool r = v ∧ h' = h) := by
 unfold shutterref01_Same.m at H
 obtain rfl := s29.len.symm
 obtain rfl := s30.len.symm
 refine fn_of (args := [.slice a21 x0.length p22, .slice a25 x1.length p26]) (rs := [.tmp 4]) (N := 26) Tryd.func29 rfl rfl rfl rfl ?_
 refine st 11 [] (k_iteN H (fun c31 H => ?_) (fun c31 H => ?_))
 ·refine st 9 [false] ?_
  obtain ⟨s33, m35, HR34⟩ := bind_some H
  refine k_loop 0 (fun k' ρ h1 => ∃ (x32 : Int), shutterref01_Same.l1.m K x0 x1 k' x32 = some s33 ∧ Fits [(0, .slice a21 x0.length p22), (1, .slice a25 x1.length p26), (5, .int .i64 x32)] ρ ∧ h = h1) (fun ρ h1 => Sum.inr () = s33 ∧ Fits [] ρ ∧ h = h1) K ⟨0, m35, ⟨by kernel_rfl, by kernel_rfl, by kernel_rfl, trivial⟩, rfl⟩ ?_ rfl ?_
  ·clear m35 H
   rintro k' ρ h1 ⟨x32, H, hf, rfl⟩
   cases k' with
   | zero => cases H
   | succ k =>
    rw [shutterref01_Same.l1.m] at H
    refine k_fits _ hf ?_ rfl
    refine st 6 [] (k_ite H (fun c36 H => ?_) (fun c36 H => ?_))
    ·refine st 6 [true] ?_
     refine k_regP 9 ?_
     obtain ⟨c37, H⟩ := guard_pos H
     refine aRun [0, 1] 7 Keep.refl ?_
     refine aP 2 (elemPtr a21 (x32.toNat * 1)) rfl (pI (e := 5) (ik := .i64) s29 c37 c36) Keep.refl ?_
     refine aL 3 rfl Keep.refl (s29.cell1 c37 c36) (fun _ _ x => x) ?_
     obtain ⟨c38, H⟩ := guard_pos H
     refine aRun [4, 5] 3 Keep.refl ?_
     refine aP 6 (elemPtr a25 (x32.toNat * 1)) rfl (pI (e := 5) (ik := .i64) s30 c37 c38) Keep.refl ?_
     refine aL 7 rfl Keep.refl (s30.cell1 c37 c38) (fun _ _ x => x) ?_
     by_cases c39 : (at_ x0 x32) = (at_ x1 x32)
     ·rw [if_pos c39] at H
      refine aP 8 (.bool false) rfl (pr_bool (by kernel_rfl) (neF c39)) Keep.refl ?_
      refine aEnd ?_
      refine st 8 [false] ?_
      exact k_endL ⟨k, Nat.lt_succ_self _, (w64 (x32 + 1)), H, ⟨by kernel_rfl, by kernel_rfl, by kernel_rfl, trivial⟩, rfl⟩
     ·rw [if_neg c39] at H
      refine aP 8 (.bool true) rfl (pr_bool (by kernel_rfl) (neT c39)) Keep.refl ?_
      refine aEnd ?_
      refine st 5 [true] ?_
      refine k_retQ (krL ?_)
      obtain rfl := Option.some.inj H
      obtain rfl := Option.some.inj HR34
      exact ⟨_, by kernel_rfl, rfl, rfl⟩
    ·refine st 2 [false] ?_
     refine k_out rfl ?_
     obtain rfl := Option.some.inj H
     exact xE ⟨rfl, trivial, rfl⟩
  ·rintro ρ h1 ⟨rfl, hf, rfl⟩
   have H := HR34
   try dsimp only at H
   refine k_fits _ hf ?_ rfl
   refine st 4 [] ?_
   refine k_retQ ?_
   obtain rfl := Option.some.inj H
   exact ⟨_, by kernel_rfl, rfl, rfl⟩
 ·refine st 6 [true] ?_
  refine k_retQ ?_
  obtain rfl := Option.some.inj H
  exact ⟨_, by kernel_rfl, rfl, rfl⟩

/-! shutter/shutterref09.Same -/
def shutterref09_Same.l1.m (K : Nat) (x0 : api_In) (x1 : api_In) : Nat → Int → Option (Bool ⊕ (Unit))
  | 0, _ => none
  | k + 1, x34 => (if x34 < (x0.Fields.length : Int) then (if 0 ≤ x34 then (if x34 < (x1.Fields.length : Int) then (if (at_ x0.Fields x34).Addr = (at_ x1.Fields x34).Addr then ((shutterref01_Same.m K ((at_ x0.Fields x34).Text) ((at_ x1.Fields x34).Text)).bind fun t58 => bif t58 then (shutterref09_Same.l1.m K x0 x1 k (w64 (x34 + 1))) else (some (Sum.inl false))) else (some (Sum.inl false))) else none) else none) else (some (Sum.inr ())))
def shutterref09_Same.m (K : Nat) (x0 : api_In) (x1 : api_In) : Option Bool :=
  (if x0.Aid = x1.Aid then (if x0.Cursor = x1.Cursor then (if (x0.Fields.length : Int) = (x1.Fields.length : Int) then ((shutterref09_Same.l1.m K x0 x1 K 0).bind fun s35 => match s35 with | .inl q => (some q) | .inr _ => (some true)) else (some false)) else (some false)) else (some false))

theorem shutterref09_Same.calls {B I : Gh} {h : Heap} {K : Nat} {x0 : api_In} {x1 : api_In} {a21 : Option Addr} {p22 : Nat} {n23 : Nat} {a25 : Option Addr} {p26 : Nat} {n27 : Nat} {r : Bool} (H : shutterref09_Same.m K x0 x1 = some r)  :
    Fc Tryd.prog 16 #[.agg #[.int .u8 x0.Aid, .int .i64 x0.Cursor, .slice a21 n23 p22], .agg #[.int .u8 x1.Aid, .int .i64 x1.Cursor, .slice a25 n27 p26]] [rR t_api_Entry .b a21 p22 n23 x0.Fields, rR t_api_Entry .b a25 p26 n27 x1.Fields] B I h (fun v L => v = .bool r ∧ L = []) := by
 refine fc_of fun E hs => ?_
 unfold shutterref09_Same.m at H
 obtain rfl := hs.nR d0
 obtain rfl := hs.nR d1
 refine fn_of (args := [.agg #[.int .u8 x0.Aid, .int .i64 x0.Cursor, .slice a21 x0.Fields.length p22], .agg #[.int .u8 x1.Aid, .int .i64 x1.Cursor, .slice a25 x1.Fields.length p26]]) (rs := [.tmp 4]) (N := 63) Tryd.func16 rfl rfl rfl rfl ?_
 refine st 2 [] (k_op (nB hs [.int .u8 x0.Aid, .int .i64 x0.Cursor, .slice a21 x0.Fields.length p22] ?_))
 intro b29 h hs
 refine k_op (nB hs [.int .u8 x1.Aid, .int .i64 x1.Cursor, .slice a25 x1.Fields.length p26] ?_)
 intro b30 h hs
 refine st 6 [] (k_op (lB (hs.bl d1) 0 rfl ?_))
 refine st 1 [] (k_op (lB (hs.bl d0) 0 rfl ?_))
 refine k_iteN H (fun c31 H => ?_) (fun c31 H => ?_)
 ·refine st 2 [] (k_op (lB (hs.bl d1) 1 rfl ?_))
  refine st 1 [] (k_op (lB (hs.bl d0) 1 rfl ?_))
  refine k_iteN H (fun c32 H => ?_) (fun c32 H => ?_)
  ·refine st 3 [] (k_op (lB (hs.bl d1) 2 rfl ?_))
   refine st 2 [] (k_op (lB (hs.bl d0) 2 rfl ?_))
   refine st 1 [] (k_iteN H (fun c33 H => ?_) (fun c33 H => ?_))
   ·refine st 10 [false] ?_
    obtain ⟨s35, m37, HR36⟩ := bind_some H
    refine k_loop 0 (fun k' ρ h => ∃ (x34 : Int) (I : Gh), shutterref09_Same.l1.m K x0 x1 k' x34 = some s35 ∧ Fits [(2, .pointer (some ⟨b29, 0, none⟩)), (3, .pointer (some ⟨b30, 0, none⟩)), (5, .int .i64 x34)] ρ ∧ St E [rR t_api_Entry .b a21 p22 x0.Fields.length x0.Fields, rB b29 [.int .u8 x0.Aid, .int .i64 x0.Cursor, .slice a21 x0.Fields.length p22] 29, rR t_api_Entry .b a25 p26 x1.Fields.length x1.Fields, rB b30 [.int .u8 x1.Aid, .int .i64 x1.Cursor, .slice a25 x1.Fields.length p26] 29] I h) (fun ρ h => ∃ (I : Gh), Sum.inr () = s35 ∧ Fits [] ρ ∧ St E [] I h) K ⟨0, I, m37, ⟨by kernel_rfl, by kernel_rfl, by kernel_rfl, trivial⟩, hs.pk (.c d2 (.c d1 (.c d1 (.c d0 .n))))⟩ ?_ rfl ?_
    ·clear m37 H
     rintro k' ρ h ⟨x34, I, H, hf, hs⟩
     cases k' with
     | zero => cases H
     | succ k =>
      rw [shutterref09_Same.l1.m] at H
      refine k_fits _ hf ?_ rfl
      refine st 5 [] (k_op (lB (hs.bl d1) 2 rfl ?_))
      refine st 1 [] (k_ite H (fun c38 H => ?_) (fun c38 H => ?_))
      ·refine st 6 [true] ?_
       obtain ⟨hs0, bk0⟩ := hs.call tk0 (.c (qL d1) (.c (qB d0) (.c (qL d3) (.c (qB d2) .n))))
       have hs := hs0
       refine k_regD hs0 29 ?_
       refine aRun [0] 28 hs.keep ?_
       refine aL 1 rfl hs.keep (ll hs0 d0 (n := 2) rfl) (nmL hs0 d0) ?_
       obtain ⟨c39, H⟩ := guard_pos H
       refine aRun [2] 26 hs.keep ?_
       refine aP 3 (elemPtr a21 (x34.toNat * 2)) rfl (pI (e := 53) (ik := .i64) (hs.sR d1) c39 c38) hs.keep ?_
       refine aP 4 (elemPtr a21 (x34.toNat * 2 + 0)) rfl (pF (off := 0) (hs.sR d1) c39 c38) hs.keep ?_
       obtain ⟨y41, g40, q42⟩ := (hs0.sR d1).toSl.seg c39 c38
       obtain ⟨a43, p44, n45, rfl, q47⟩ := t_api_Entry.open_ q42
       obtain rfl := q47.2
       replace hs := hs.pR q47
       refine aL 5 rfl hs.keep (seg_cell (f := 0) g40 rfl) (nmR hs0 d1 c39 c38) ?_
       refine aRun [6] 22 hs.keep ?_
       refine aL 7 rfl hs.keep (ll hs0 d2 (n := 2) rfl) (nmL hs0 d2) ?_
       obtain ⟨c48, H⟩ := guard_pos H
       refine aRun [8] 20 hs.keep ?_
       refine aP 9 (elemPtr a25 (x34.toNat * 2)) rfl (pI (e := 53) (ik := .i64) (hs.sR d4) c39 c48) hs.keep ?_
       refine aP 10 (elemPtr a25 (x34.toNat * 2 + 0)) rfl (pF (off := 0) (hs.sR d4) c39 c48) hs.keep ?_
       obtain ⟨y50, g49, q51⟩ := (hs0.sR d3).toSl.seg c39 c48
       obtain ⟨a52, p53, n54, rfl, q56⟩ := t_api_Entry.open_ q51
       obtain rfl := q56.2
       replace hs := hs.pR q56
       refine aL 11 rfl hs.keep (seg_cell (f := 0) g49 rfl) (nmR hs0 d3 c39 c48) ?_
       by_cases c57 : (at_ x0.Fields x34).Addr = (at_ x1.Fields x34).Addr
       ·rw [if_pos c57] at H
        refine aP 12 (.bool false) rfl (pr_bool (by kernel_rfl) (neF c57)) hs.keep ?_
        refine aRun [13, 14] 14 hs.keep ?_
        refine aL 15 rfl hs.keep (ll hs0 d0 (n := 2) rfl) (nmL hs0 d0) ?_
        refine aRun [16] 12 hs.keep ?_
        refine aP 17 (elemPtr a21 (x34.toNat * 2)) rfl (pI (e := 53) (ik := .i64) (hs.sR d3) c39 c38) hs.keep ?_
        refine aP 18 (elemPtr a21 (x34.toNat * 2 + 1)) rfl (pF (off := 1) (hs.sR d3) c39 c38) hs.keep ?_
        refine aL 19 rfl hs.keep (seg_cell (f := 1) g40 rfl) (nmR hs0 d1 c39 c38) ?_
        refine aRun [20] 8 hs.keep ?_
        refine aL 21 rfl hs.keep (ll hs0 d2 (n := 2) rfl) (nmL hs0 d2) ?_
        refine aRun [22] 6 hs.keep ?_
        refine aP 23 (elemPtr a25 (x34.toNat * 2)) rfl (pI (e := 53) (ik := .i64) (hs.sR d5) c39 c48) hs.keep ?_
        refine aP 24 (elemPtr a25 (x34.toNat * 2 + 1)) rfl (pF (off := 1) (hs.sR d5) c39 c48) hs.keep ?_
        refine aL 25 rfl hs.keep (seg_cell (f := 1) g49 rfl) (nmR hs0 d3 c39 c48) ?_
        refine aO1 26 rfl (o_call H (fun _ m => shutterref01_Same.calls m (hs.sR d1) (hs.sR d0)) ?_)
        rintro t58 _ _ H ⟨rfl, rfl⟩
        refine ⟨hs.keep, ?_⟩
        cases t58
        ·rw [cond_false] at H
         refine aRun [27, 28] 0 hs.keep ?_
         replace hs := hs.pk .n
         replace hs := bk0 hs ct0 rfl
         refine aEnd ?_
         refine st 5 [true] ?_
         refine k_retQ (krL ?_)
         obtain rfl := Option.some.inj H
         obtain rfl := Option.some.inj HR36
         exact ⟨_, by kernel_rfl, I, _, ⟨rfl, rfl⟩, hs.pk .n⟩
        ·rw [cond_true] at H
         refine aRun [27, 28] 0 hs.keep ?_
         replace hs := hs.pk .n
         replace hs := bk0 hs ct0 rfl
         refine aEnd ?_
         refine st 8 [false] ?_
         exact k_endL ⟨k, Nat.lt_succ_self _, (w64 (x34 + 1)), I, H, ⟨by kernel_rfl, by kernel_rfl, by kernel_rfl, trivial⟩, hs.pk (.c d0 (.c d0 (.c d0 (.c d0 .n))))⟩
       ·rw [if_neg c57] at H
        refine aP 12 (.bool true) rfl (pr_bool (by kernel_rfl) (neT c57)) hs.keep ?_
        refine aRun [13, 14, 15, 16, 17, 18, 19, 20, 21, 22, 23, 24, 25, 26, 27, 28] 0 hs.keep ?_
        replace hs := hs.pk .n
        replace hs := bk0 hs ct0 rfl
        refine aEnd ?_
        refine st 5 [true] ?_
        refine k_retQ (krL ?_)
        obtain rfl := Option.some.inj H
        obtain rfl := Option.some.inj HR36
        exact ⟨_, by kernel_rfl, I, _, ⟨rfl, rfl⟩, hs.pk .n⟩
      ·refine st 2 [false] ?_
       refine k_out rfl ?_
       obtain rfl := Option.some.inj H
       exact xE ⟨I, rfl, trivial, hs.pk .n⟩
    ·rintro ρ h ⟨I, rfl, hf, hs⟩
     have H := HR36
     try dsimp only at H
     refine k_fits _ hf ?_ rfl
     refine st 4 [] ?_
     refine k_retQ ?_
     obtain rfl := Option.some.inj H
     exact ⟨_, by kernel_rfl, I, _, ⟨rfl, rfl⟩, hs.pk .n⟩
   ·refine st 7 [true] ?_
    refine k_retQ ?_
    obtain rfl := Option.some.inj H
    exact ⟨_, by kernel_rfl, I, _, ⟨rfl, rfl⟩, hs.pk .n⟩
  ·refine st 16 [true] ?_
   refine k_retQ ?_
   obtain rfl := Option.some.inj H
   exact ⟨_, by kernel_rfl, I, _, ⟨rfl, rfl⟩, hs.pk .n⟩
 ·refine st 22 [true] ?_
  refine k_retQ ?_
  obtain rfl := Option.some.inj H
  exact ⟨_, by kernel_rfl, I, _, ⟨rfl, rfl⟩, hs.pk .n⟩

/-! shutter/shutterref11.Formatted -/
def shutterref11_Formatted.l1.m (K : Nat) (x0 : api_Screen) : Nat → Int → Option (Bool ⊕ (Unit))
  | 0, _ => none
  | k + 1, x26 => (if x26 < (x0.Cells.length : Int) then (if 0 ≤ x26 then (bif (at_ x0.Cells x26).Field then (some (Sum.inl true)) else (shutterref11_Formatted.l1.m K x0 k (w64 (x26 + 1)))) else none) else (some (Sum.inr ())))
def shutterref11_Formatted.m (K : Nat) (x0 : api_Screen) : Option Bool :=
  ((shutterref11_Formatted.l1.m K x0 K 0).bind fun s27 => match s27 with | .inl q => (some q) | .inr _ => (some false))

theorem shutterref11_Formatted.calls {B I : Gh} {h : Heap} {K : Nat} {x0 : api_Screen} {a21 : Option Addr} {p22 : Nat} {n23 : Nat} {r : Bool} (H : shutterref11_Formatted.m K x0 = some r)  :
    Fc Tryd.prog 43 #[.agg #[.int .i64 x0.Rows, .int .i64 x0.Cols, .slice a21 n23 p22, .int .i64 x0.Cursor, .bool x0.Locked, .bool x0.Insert]] [rR t_api_Cell .b a21 p22 n23 x0.Cells] B I h (fun v L => v = .bool r ∧ L = []) := by
 refine fc_of fun E hs => ?_
 unfold shutterref11_Formatted.m at H
 obtain rfl := hs.nR d0
 refine fn_of (args := [.agg #[.int .i64 x0.Rows, .int .i64 x0.Cols, .slice a21 x0.Cells.length p22, .int .i64 x0.Cursor, .bool x0.Locked, .bool x0.Insert]]) (rs := [.tmp 2]) (N := 17) Tryd.func43 rfl rfl rfl rfl ?_
 refine st 2 [] (k_op (nB hs [.int .i64 x0.Rows, .int .i64 x0.Cols, .slice a21 x0.Cells.length p22, .int .i64 x0.Cursor, .bool x0.Locked, .bool x0.Insert] ?_))
 intro b25 h hs
 refine st 8 [] ?_
 obtain ⟨s27, m29, HR28⟩ := bind_some H
 refine k_loop 0 (fun k' ρ h => ∃ (x26 : Int) (I : Gh), shutterref11_Formatted.l1.m K x0 k' x26 = some s27 ∧ Fits [(1, .pointer (some ⟨b25, 0, none⟩)), (3, .int .i64 x26)] ρ ∧ St E [rR t_api_Cell .b a21 p22 x0.Cells.length x0.Cells, rB b25 [.int .i64 x0.Rows, .int .i64 x0.Cols, .slice a21 x0.Cells.length p22, .int .i64 x0.Cursor, .bool x0.Locked, .bool x0.Insert] 24] I h) (fun ρ h => ∃ (I : Gh), Sum.inr () = s27 ∧ Fits [] ρ ∧ St E [] I h) K ⟨0, I, m29, ⟨by kernel_rfl, by kernel_rfl, trivial⟩, hs.pk (.c d1 (.c d0 .n))⟩ ?_ rfl ?_
 ·clear m29 H
  rintro k' ρ h ⟨x26, I, H, hf, hs⟩
  cases k' with
  | zero => cases H
  | succ k =>
   rw [shutterref11_Formatted.l1.m] at H
   refine k_fits _ hf ?_ rfl
   refine st 5 [] (k_op (lB (hs.bl d1) 2 rfl ?_))
   refine st 1 [] (k_ite H (fun c30 H => ?_) (fun c30 H => ?_))
   ·refine st 8 [true] (k_op (lB (hs.bl d1) 2 rfl ?_))
    obtain ⟨c31, H⟩ := guard_pos H
    refine st 1 [] (k_val (elemPtr a21 (x26.toNat * 6)) (pI (e := 83) (ik := .i64) (hs.sR d0) c31 c30) ?_)
    refine k_val (elemPtr a21 (x26.toNat * 6 + 0)) (pF (off := 0) (hs.sR d0) c31 c30) ?_
    obtain ⟨y33, g32, q34⟩ := (hs.sR d0).toSl.seg c31 c30
    obtain rfl := t_api_Cell.open_ q34
    refine k_op (lC (seg_cell (f := 0) g32 rfl) ?_)
    refine k_spl H (fun c35 H => ?_) (fun c35 H => ?_)
    ·refine st 6 [true] ?_
     refine k_retQ (krL ?_)
     obtain rfl := Option.some.inj H
     obtain rfl := Option.some.inj HR28
     exact ⟨_, by kernel_rfl, I, _, ⟨rfl, rfl⟩, hs.pk .n⟩
    ·refine st 9 [false] ?_
     exact k_endL ⟨k, Nat.lt_succ_self _, (w64 (x26 + 1)), I, H, ⟨by kernel_rfl, by kernel_rfl, trivial⟩, hs.pk (.c d0 (.c d0 .n))⟩
   ·refine st 2 [false] ?_
    refine k_out rfl ?_
    obtain rfl := Option.some.inj H
    exact xE ⟨I, rfl, trivial, hs.pk .n⟩
 ·rintro ρ h ⟨I, rfl, hf, hs⟩
  have H := HR28
  try dsimp only at H
  refine k_fits _ hf ?_ rfl
  refine st 4 [] ?_
  refine k_retQ ?_
  obtain rfl := Option.some.inj H
  exact ⟨_, by kernel_rfl, I, _, ⟨rfl, rfl⟩, hs.pk .n⟩

/-! shutter/shutterref09.Letter -/
def shutterref09_Letter.m (x0 : Int) : Option Bool :=
  (if x0 = 0 then (some false) else ((shutterref05_Char.m x0).bind fun t22 => (some t22)))

theorem shutterref09_Letter.calls {x0 : Int} {h : Heap} {r : Bool} (H : shutterref09_Letter.m x0 = some r)   :
    Ret Tryd.prog 44 #[.int .u8 x0] h (fun v h' => .bool r = v ∧ h' = h) := by
 unfold shutterref09_Letter.m at H
 refine fn_of (args := [.int .u8 x0]) (rs := [.tmp 2]) (N := 9) Tryd.func44 rfl rfl rfl rfl ?_
 refine st 7 [] (k_iteN H (fun c21 H => ?_) (fun c21 H => ?_))
 ·refine st 6 [] ?_
  refine k_retQ ?_
  obtain rfl := Option.some.inj H
  exact ⟨_, by kernel_rfl, rfl, rfl⟩
 ·refine st 2 [] (k_call H (fun _ m => shutterref05_Char.calls m) ?_)
  rintro t22 _ _ H ⟨rfl, rfl⟩
  refine st 3 [] ?_
  refine k_retQ ?_
  obtain rfl := Option.some.inj H
  exact ⟨_, by kernel_rfl, rfl, rfl⟩

/-! shutter/shutterref11.mod -/
def shutterref11_mod.l1.m (K : Nat) (x1 : Int) : Nat → Int → Option (Int)
  | 0, _ => none
  | k + 1, x21 => (if x21 < 0 then (shutterref11_mod.l1.m K x1 k (w64 (x21 + x1))) else (some (x21)))
def shutterref11_mod.m (K : Nat) (x0 : Int) (x1 : Int) : Option Int :=
  ((shutterref11_mod.l1.m K x1 K x0).bind fun x23 => (if x1 ≠ 0 then (some (Int.tmod x23 x1)) else none))

theorem shutterref11_mod.calls {K : Nat} {x0 : Int} {x1 : Int} {h : Heap} {r : Int} (H : shutterref11_mod.m K x0 x1 = some r)   :
    Ret Tryd.prog 74 #[.int .i64 x0, .int .i64 x1] h (fun v h' => .int .i64 r = v ∧ h' = h) := by
 unfold shutterref11_mod.m at H
 refine fn_of (args := [.int .i64 x0, .int .i64 x1]) (rs := [.tmp 4]) (N := 13) Tryd.func74 rfl rfl rfl rfl ?_
 refine st 6 [] ?_
 obtain ⟨s22, m25, HR24⟩ := bind_some H
 refine k_loop 0 (fun k' ρ h1 => ∃ (x21 : Int), shutterref11_mod.l1.m K x1 k' x21 = some s22 ∧ Fits [(0, .int .i64 x21), (1, .int .i64 x1)] ρ ∧ h = h1) (fun ρ h1 => ∃ (x23 : Int), x23 = s22 ∧ Fits [(0, .int .i64 x23), (1, .int .i64 x1)] ρ ∧ h = h1) K ⟨x0, m25, ⟨by kernel_rfl, by kernel_rfl, trivial⟩, rfl⟩ ?_ rfl ?_
 ·clear HR24 m25 H
  rintro k' ρ h1 ⟨x21, H, hf, rfl⟩
  cases k' with
  | zero => cases H
  | succ k =>
   rw [shutterref11_mod.l1.m] at H
   refine k_fits _ hf ?_ rfl
   refine st 4 [] (k_ite H (fun c26 H => ?_) (fun c26 H => ?_))
   ·refine st 11 [true] ?_
    exact k_endL ⟨k, Nat.lt_succ_self _, (w64 (x21 + x1)), H, ⟨by kernel_rfl, by kernel_rfl, trivial⟩, rfl⟩
   ·refine st 2 [false] ?_
    refine k_out rfl ?_
    obtain rfl := Option.some.inj H
    exact xE ⟨x21, rfl, ⟨by kernel_rfl, by kernel_rfl, trivial⟩, rfl⟩
 ·rintro ρ h1 ⟨x23, rfl, hf, rfl⟩
  have H := HR24
  try dsimp only at H
  refine k_fits _ hf ?_ rfl
  obtain ⟨c27, H⟩ := guard_pos H
  refine st 4 [] (k_val (.int .i64 (Int.tmod x23 x1)) (pr_rem (k := .i64) (a := x23) (b := x1) (by kernel_rfl) (by kernel_rfl) c27) ?_)
  refine st 2 [] ?_
  refine k_retQ ?_
  obtain rfl := Option.some.inj H
  exact ⟨_, by kernel_rfl, rfl, rfl⟩

/-! shutter/shutterref11.Begin -/
def shutterref11_Begin.l1.m (K : Nat) (x0 : api_Screen) (x1 : Int) : Nat → Int → Option (Int ⊕ (Unit))
  | 0, _ => none
  | k + 1, x26 => (if x26 < (x0.Cells.length : Int) then ((shutterref11_mod.m K (w64 (x1 - x26)) (x0.Cells.length : Int)).bind fun t31 => (if 0 ≤ t31 then (if t31 < (x0.Cells.length : Int) then (bif (at_ x0.Cells t31).Field then (some (Sum.inl t31)) else (shutterref11_Begin.l1.m K x0 x1 k (w64 (x26 + 1)))) else none) else none)) else (some (Sum.inr ())))
def shutterref11_Begin.m (K : Nat) (x0 : api_Screen) (x1 : Int) : Option Int :=
  ((shutterref11_Begin.l1.m K x0 x1 K 0).bind fun s27 => match s27 with | .inl q => (some q) | .inr _ => (some (-1)))

theorem shutterref11_Begin.calls {B I : Gh} {h : Heap} {K : Nat} {x0 : api_Screen} {x1 : Int} {a21 : Option Addr} {p22 : Nat} {n23 : Nat} {r : Int} (H : shutterref11_Begin.m K x0 x1 = some r)  :
    Fc Tryd.prog 73 #[.agg #[.int .i64 x0.Rows, .int .i64 x0.Cols, .slice a21 n23 p22, .int .i64 x0.Cursor, .bool x0.Locked, .bool x0.Insert], .int .i64 x1] [rR t_api_Cell .b a21 p22 n23 x0.Cells] B I h (fun v L => v = .int .i64 r ∧ L = []) := by
 refine fc_of fun E hs => ?_
 unfold shutterref11_Begin.m at H
 obtain rfl := hs.nR d0
 refine fn_of (args := [.agg #[.int .i64 x0.Rows, .int .i64 x0.Cols, .slice a21 x0.Cells.length p22, .int .i64 x0.Cursor, .bool x0.Locked, .bool x0.Insert], .int .i64 x1]) (rs := [.tmp 4]) (N := 28) Tryd.func73 rfl rfl rfl rfl ?_
 refine st 2 [] (k_op (nB hs [.int .i64 x0.Rows, .int .i64 x0.Cols, .slice a21 x0.Cells.length p22, .int .i64 x0.Cursor, .bool x0.Locked, .bool x0.Insert] ?_))
 intro b25 h hs
 refine st 8 [] ?_
 obtain ⟨s27, m29, HR28⟩ := bind_some H
 refine k_loop 0 (fun k' ρ h => ∃ (x26 : Int) (I : Gh), shutterref11_Begin.l1.m K x0 x1 k' x26 = some s27 ∧ Fits [(1, .int .i64 x1), (2, .pointer (some ⟨b25, 0, none⟩)), (5, .int .i64 x26)] ρ ∧ St E [rR t_api_Cell .b a21 p22 x0.Cells.length x0.Cells, rB b25 [.int .i64 x0.Rows, .int .i64 x0.Cols, .slice a21 x0.Cells.length p22, .int .i64 x0.Cursor, .bool x0.Locked, .bool x0.Insert] 24] I h) (fun ρ h => ∃ (I : Gh), Sum.inr () = s27 ∧ Fits [] ρ ∧ St E [] I h) K ⟨0, I, m29, ⟨by kernel_rfl, by kernel_rfl, by kernel_rfl, trivial⟩, hs.pk (.c d1 (.c d0 .n))⟩ ?_ rfl ?_
 ·clear m29 H
  rintro k' ρ h ⟨x26, I, H, hf, hs⟩
  cases k' with
  | zero => cases H
  | succ k =>
   rw [shutterref11_Begin.l1.m] at H
   refine k_fits _ hf ?_ rfl
   refine st 5 [] (k_op (lB (hs.bl d1) 2 rfl ?_))
   refine st 1 [] (k_ite H (fun c30 H => ?_) (fun c30 H => ?_))
   ·refine st 11 [true] (k_op (lB (hs.bl d1) 2 rfl ?_))
    refine st 1 [] (k_call H (fun _ m => shutterref11_mod.calls m) ?_)
    rintro t31 _ _ H ⟨rfl, rfl⟩
    refine st 5 [] (k_op (lB (hs.bl d1) 2 rfl ?_))
    obtain ⟨c32, H⟩ := guard_pos H
    obtain ⟨c33, H⟩ := guard_pos H
    refine st 1 [] (k_val (elemPtr a21 (t31.toNat * 6)) (pI (e := 83) (ik := .i64) (hs.sR d0) c32 c33) ?_)
    refine k_val (elemPtr a21 (t31.toNat * 6 + 0)) (pF (off := 0) (hs.sR d0) c32 c33) ?_
    obtain ⟨y35, g34, q36⟩ := (hs.sR d0).toSl.seg c32 c33
    obtain rfl := t_api_Cell.open_ q36
    refine k_op (lC (seg_cell (f := 0) g34 rfl) ?_)
    refine k_spl H (fun c37 H => ?_) (fun c37 H => ?_)
    ·refine st 7 [true] ?_
     refine k_retQ (krL ?_)
     obtain rfl := Option.some.inj H
     obtain rfl := Option.some.inj HR28
     exact ⟨_, by kernel_rfl, I, _, ⟨rfl, rfl⟩, hs.pk .n⟩
    ·refine st 9 [false] ?_
     exact k_endL ⟨k, Nat.lt_succ_self _, (w64 (x26 + 1)), I, H, ⟨by kernel_rfl, by kernel_rfl, by kernel_rfl, trivial⟩, hs.pk (.c d0 (.c d0 .n))⟩
   ·refine st 2 [false] ?_
    refine k_out rfl ?_
    obtain rfl := Option.some.inj H
    exact xE ⟨I, rfl, trivial, hs.pk .n⟩
 ·rintro ρ h ⟨I, rfl, hf, hs⟩
  have H := HR28
  try dsimp only at H
  refine k_fits _ hf ?_ rfl
  refine st 4 [] ?_
  refine k_retQ ?_
  obtain rfl := Option.some.inj H
  exact ⟨_, by kernel_rfl, I, _, ⟨rfl, rfl⟩, hs.pk .n⟩

/-! shutter/shutterref11.Cells -/
def shutterref11_Cells.l1.m (K : Nat) (x0 : api_Screen) (t26 : Int) : Nat → (List Int) → Int → Option ((List Int))
  | 0, _, _ => none
  | k + 1, x27, x32 => (if x32 ≤ (x0.Cells.length : Int) then ((shutterref11_mod.m K (w64 (t26 + x32)) (x0.Cells.length : Int)).bind fun t42 => (if 0 ≤ t42 then (if t42 < (x0.Cells.length : Int) then (bif (at_ x0.Cells t42).Field then (some (x27)) else ((app x27 [t42]).bind fun l51 => (shutterref11_Cells.l1.m K x0 t26 k l51 (w64 (x32 + 1))))) else none) else none)) else (some (x27)))
def shutterref11_Cells.m (K : Nat) (x0 : api_Screen) (x1 : Int) : Option (List Int) :=
  ((shutterref11_Begin.m K x0 x1).bind fun t26 => ((shutterref11_Cells.l1.m K x0 t26 K [] 1).bind fun x34 => (some x34)))

theorem shutterref11_Cells.calls {B I : Gh} {h : Heap} {K : Nat} {x0 : api_Screen} {x1 : Int} {a21 : Option Addr} {p22 : Nat} {n23 : Nat} {r : (List Int)} (H : shutterref11_Cells.m K x0 x1 = some r)  :
    Fc Tryd.prog 45 #[.agg #[.int .i64 x0.Rows, .int .i64 x0.Cols, .slice a21 n23 p22, .int .i64 x0.Cursor, .bool x0.Locked, .bool x0.Insert], .int .i64 x1] [rR t_api_Cell .b a21 p22 n23 x0.Cells] B I h (fun v L => ∃ (a56 : Option Addr) (p57 : Nat) (n58 : Nat), v = .slice a56 n58 p57 ∧ L = [rO (tInt .i64) .i a56 p57 n58 r]) := by
 refine fc_of fun E hs => ?_
 unfold shutterref11_Cells.m at H
 obtain rfl := hs.nR d0
 refine fn_of (args := [.agg #[.int .i64 x0.Rows, .int .i64 x0.Cols, .slice a21 x0.Cells.length p22, .int .i64 x0.Cursor, .bool x0.Locked, .bool x0.Insert], .int .i64 x1]) (rs := [.tmp 4]) (N := 37) Tryd.func45 rfl rfl rfl rfl ?_
 refine st 2 [] (k_op (nB hs [.int .i64 x0.Rows, .int .i64 x0.Cols, .slice a21 x0.Cells.length p22, .int .i64 x0.Cursor, .bool x0.Locked, .bool x0.Insert] ?_))
 intro b25 h hs
 refine st 8 [] (k_op (lN (hs.bl d0) 0 6 ?_))
 obtain ⟨hk, bk⟩ := hs.call tk0 (.c (qB d1) .n)
 refine st 1 [] (k_call H (fun _ m => shutterref11_Begin.calls m hk) ?_)
 rintro t26 _ h H ⟨I, _, ⟨rfl, rfl⟩, hk⟩
 replace hs := bk hk ct0 rfl
 refine st 8 [] ?_
 obtain ⟨s33, m40, HR39⟩ := bind_some H
 refine k_loop 0 (fun k' ρ h => ∃ (x27 : List Int) (x32 : Int) (a28 : Option Addr) (p29 : Nat) (n30 : Nat) (I : Gh), shutterref11_Cells.l1.m K x0 t26 k' x27 x32 = some s33 ∧ Fits [(2, .pointer (some ⟨b25, 0, none⟩)), (5, .slice a28 n30 p29), (6, .int .i64 t26), (7, .int .i64 x32)] ρ ∧ St E [rO (tInt .i64) .i a28 p29 n30 x27, rR t_api_Cell .b a21 p22 x0.Cells.length x0.Cells, rB b25 [.int .i64 x0.Rows, .int .i64 x0.Cols, .slice a21 x0.Cells.length p22, .int .i64 x0.Cursor, .bool x0.Locked, .bool x0.Insert] 24] I h) (fun ρ h => ∃ (x34 : List Int) (a35 : Option Addr) (p36 : Nat) (n37 : Nat) (I : Gh), x34 = s33 ∧ Fits [(5, .slice a35 n37 p36)] ρ ∧ St E [rO (tInt .i64) .i a35 p36 n37 x34] I h) K ⟨[], 1, none, 0, 0, I, m40, ⟨by kernel_rfl, by kernel_rfl, by kernel_rfl, by kernel_rfl, trivial⟩, hs.pk (.f imON (.c d1 (.c d0 .n)))⟩ ?_ rfl ?_
 ·clear HR39 m40 H
  rintro k' ρ h ⟨x27, x32, a28, p29, n30, I, H, hf, hs⟩
  cases k' with
  | zero => cases H
  | succ k =>
   rw [shutterref11_Cells.l1.m] at H
   refine k_fits _ hf ?_ rfl
   obtain rfl := hs.nO d0
   refine st 5 [] (k_op (lB (hs.bl d2) 2 rfl ?_))
   refine st 1 [] (k_ite H (fun c41 H => ?_) (fun c41 H => ?_))
   ·refine st 11 [true] (k_op (lB (hs.bl d2) 2 rfl ?_))
    refine st 1 [] (k_call H (fun _ m => shutterref11_mod.calls m) ?_)
    rintro t42 _ _ H ⟨rfl, rfl⟩
    refine st 6 [] (k_op (lB (hs.bl d2) 2 rfl ?_))
    obtain ⟨c43, H⟩ := guard_pos H
    obtain ⟨c44, H⟩ := guard_pos H
    refine st 1 [] (k_val (elemPtr a21 (t42.toNat * 6)) (pI (e := 83) (ik := .i64) (hs.sR d1) c43 c44) ?_)
    refine k_val (elemPtr a21 (t42.toNat * 6 + 0)) (pF (off := 0) (hs.sR d1) c43 c44) ?_
    obtain ⟨y46, g45, q47⟩ := (hs.sR d1).toSl.seg c43 c44
    obtain rfl := t_api_Cell.open_ q47
    refine k_op (lC (seg_cell (f := 0) g45 rfl) ?_)
    refine k_spl H (fun c48 H => ?_) (fun c48 H => ?_)
    ·refine st 2 [true] ?_
     refine k_out rfl ?_
     obtain rfl := Option.some.inj H
     exact xE ⟨x27, a28, p29, x27.length, I, rfl, ⟨by kernel_rfl, trivial⟩, hs.pk (.c d0 .n)⟩
    ·refine st 6 [false] (k_op (nS (e := 3) hs .i (tInt .i64) ([t42] : List Int) [.int .i64 t42] 1 (.int .i64 0) (Reps.int (I := (Cl.G .i E.B I)) (k := .i64) (l := [t42])) ?_))
     intro b49 h hs
     replace hs := (hs.f d1)
     obtain ⟨l51, m52, H⟩ := bind_some H
     refine k_op (aO (e := 3) (bytes := 8) hs (hs.sO d1) m52 ?_)
     intro a53 p54 h hs
     refine st 8 [] ?_
     exact k_endL ⟨k, Nat.lt_succ_self _, l51, (w64 (x32 + 1)), a53, p54, l51.length, I, H, ⟨by kernel_rfl, by kernel_rfl, by kernel_rfl, by kernel_rfl, trivial⟩, hs.pk (.c d0 (.c d1 (.c d1 .n)))⟩
   ·refine st 2 [false] ?_
    refine k_out rfl ?_
    obtain rfl := Option.some.inj H
    exact xE ⟨x27, a28, p29, x27.length, I, rfl, ⟨by kernel_rfl, trivial⟩, hs.pk (.c d0 .n)⟩
 ·rintro ρ h ⟨x34, a35, p36, n37, I, rfl, hf, hs⟩
  have H := HR39
  try dsimp only at H
  refine k_fits _ hf ?_ rfl
  obtain rfl := hs.nO d0
  refine st 5 [] ?_
  refine k_retQ ?_
  obtain rfl := Option.some.inj H
  exact ⟨_, by kernel_rfl, I, _, ⟨a35, p36, x34.length, rfl, rfl⟩, hs.pk (.c d0 .n)⟩

/-! shutter/shutterref10.Next -/
def shutterref10_Next.m (x0 : api_Screen) (x1 : Int) : Option Int :=
  (if (w64 (x1 + 1)) = (x0.Cells.length : Int) then (some 0) else (some (w64 (x1 + 1))))

theorem shutterref10_Next.calls {B I : Gh} {h : Heap} {x0 : api_Screen} {x1 : Int} {a21 : Option Addr} {p22 : Nat} {n23 : Nat} {r : Int} (H : shutterref10_Next.m x0 x1 = some r)  :
    Fc Tryd.prog 46 #[.agg #[.int .i64 x0.Rows, .int .i64 x0.Cols, .slice a21 n23 p22, .int .i64 x0.Cursor, .bool x0.Locked, .bool x0.Insert], .int .i64 x1] [rR t_api_Cell .b a21 p22 n23 x0.Cells] B I h (fun v L => v = .int .i64 r ∧ L = []) := by
 refine fc_of fun E hs => ?_
 unfold shutterref10_Next.m at H
 obtain rfl := hs.nR d0
 refine fn_of (args := [.agg #[.int .i64 x0.Rows, .int .i64 x0.Cols, .slice a21 x0.Cells.length p22, .int .i64 x0.Cursor, .bool x0.Locked, .bool x0.Insert], .int .i64 x1]) (rs := [.tmp 4]) (N := 13) Tryd.func46 rfl rfl rfl rfl ?_
 refine st 2 [] (k_op (nB hs [.int .i64 x0.Rows, .int .i64 x0.Cols, .slice a21 x0.Cells.length p22, .int .i64 x0.Cursor, .bool x0.Locked, .bool x0.Insert] ?_))
 intro b25 h hs
 refine st 8 [] (k_op (lB (hs.bl d0) 2 rfl ?_))
 refine st 1 [] (k_ite H (fun c26 H => ?_) (fun c26 H => ?_))
 ·refine st 6 [true] ?_
  refine k_retQ ?_
  obtain rfl := Option.some.inj H
  exact ⟨_, by kernel_rfl, I, _, ⟨rfl, rfl⟩, hs.pk .n⟩
 ·refine st 9 [false] ?_
  refine k_retQ ?_
  obtain rfl := Option.some.inj H
  exact ⟨_, by kernel_rfl, I, _, ⟨rfl, rfl⟩, hs.pk .n⟩

/-! shutter/shutterref18.Modified -/
def shutterref18_Modified.l1.m (K : Nat) (x0 : api_Screen) : Nat → (List Int) → Int → Option ((List Int))
  | 0, _, _ => none
  | k + 1, x32, x37 => (if x37 < (x0.Cells.length : Int) then (letJ (α := Bool → Option ((List Int))) (fun (x52 : Bool) => (bif x52 then (if 0 ≤ x37 then ((app x32 [(at_ x0.Cells x37).Char]).bind fun l60 => (shutterref18_Modified.l1.m K x0 k l60 (w64 (x37 + 1)))) else none) else (shutterref18_Modified.l1.m K x0 k x32 (w64 (x37 + 1))))) fun (j53 : Bool → Option ((List Int))) => (if 0 ≤ x37 then ((shutterref09_Letter.m ((at_ x0.Cells x37).Char)).bind fun t51 => bif t51 then (j53 true) else (j53 false)) else none)) else (some (x32)))
def shutterref18_Modified.l3.m (K : Nat) (x0 : api_Screen) (t102 : (List Int)) : Nat → Int → Int → (List Int) → Option (Int × (List Int))
  | 0, _, _, _ => none
  | k + 1, x109, x110, x111 => (if x109 < (t102.length : Int) then (letJ (α := Bool → Option (Int × (List Int))) (fun (x133 : Bool) => (bif x133 then (if 0 ≤ x109 then (if 0 ≤ (at_ t102 x109) then (if (at_ t102 x109) < (x0.Cells.length : Int) then ((app x111 [(at_ x0.Cells (at_ t102 x109)).Char]).bind fun l143 => (shutterref18_Modified.l3.m K x0 t102 k (w64 (x109 + 1)) x110 l143)) else none) else none) else none) else (shutterref18_Modified.l3.m K x0 t102 k (w64 (x109 + 1)) x110 x111))) fun (j134 : Bool → Option (Int × (List Int))) => (if 0 ≤ x109 then (if 0 ≤ (at_ t102 x109) then (if (at_ t102 x109) < (x0.Cells.length : Int) then (if (at_ x0.Cells (at_ t102 x109)).Char = 0 then (j134 false) else (j134 true)) else none) else none) else none)) else (some ((x110, x111))))
def shutterref18_Modified.l2.m (K : Nat) (x0 : api_Screen) : Nat → Int → Int → Int → (List api_Entry) → Option (Int × Int × (List api_Entry))
  | 0, _, _, _, _ => none
  | k + 1, x77, x78, x79, x80 => (if x77 < (x0.Cells.length : Int) then (if 0 ≤ x77 then (bif (at_ x0.Cells x77).Field then (bif ((at_ x0.Cells x77).Attr).Modified then ((shutterref11_Cells.m K x0 x77).bind fun t102 => ((shutterref10_Next.m x0 x77).bind fun t107 => ((shutterref18_Modified.l3.m K x0 t102 K 0 t107 []).bind fun (x117, x118) => ((app x80 [(⟨x117, x118⟩ : api_Entry)]).bind fun l151 => (shutterref18_Modified.l2.m K x0 k (w64 (x77 + 1)) x78 x79 l151))))) else (shutterref18_Modified.l2.m K x0 k (w64 (x77 + 1)) x78 x79 x80)) else (shutterref18_Modified.l2.m K x0 k (w64 (x77 + 1)) x78 x79 x80)) else none) else (some ((x78, x79, x80))))
def shutterref18_Modified.m (K : Nat) (x0 : api_Screen) (x1 : Int) : Option api_In :=
  ((shutterref05_Bare.m x1).bind fun t27 => bif t27 then (some (⟨x1, 0, []⟩ : api_In)) else (letJ (α := Bool → Option api_In) (fun (x30 : Bool) => (bif x30 then ((shutterref18_Modified.l1.m K x0 K [] 0).bind fun x39 => (letJ (α := Bool → Option api_In) (fun (x67 : Bool) => (bif x67 then ((app ([] : List api_Entry) [(⟨(-1), x39⟩ : api_Entry)]).bind fun l71 => (some (⟨x1, x0.Cursor, l71⟩ : api_In))) else (some (⟨x1, x0.Cursor, []⟩ : api_In)))) fun (j68 : Bool → Option api_In) => (if (x39.length : Int) > 0 then (j68 true) else (j68 false)))) else ((shutterref18_Modified.l2.m K x0 K 0 x1 x0.Cursor []).bind fun (x86, x87, x88) => (some (⟨x86, x87, x88⟩ : api_In))))) fun (j31 : Bool → Option api_In) => ((shutterref11_Formatted.m K x0).bind fun t29 => bif t29 then (j31 false) else (j31 true))))

theorem shutterref18_Modified.calls {B I : Gh} {h : Heap} {K : Nat} {x0 : api_Screen} {x1 : Int} {a21 : Option Addr} {p22 : Nat} {n23 : Nat} {r : api_In} (H : shutterref18_Modified.m K x0 x1 = some r)  :
    Fc Tryd.prog 17 #[.agg #[.int .i64 x0.Rows, .int .i64 x0.Cols, .slice a21 n23 p22, .int .i64 x0.Cursor, .bool x0.Locked, .bool x0.Insert], .int .u8 x1] [rR t_api_Cell .b a21 p22 n23 x0.Cells] B I h (fun v L => ∃ (a157 : Option Addr) (p158 : Nat) (n159 : Nat), v = .agg #[.int .u8 r.Aid, .int .i64 r.Cursor, .slice a157 n159 p158] ∧ L = [rO t_api_Entry .i a157 p158 n159 r.Fields]) := by
 refine fc_of fun E hs => ?_
 unfold shutterref18_Modified.m at H
 obtain rfl := hs.nR d0
 refine fn_of2 (args := [.agg #[.int .i64 x0.Rows, .int .i64 x0.Cols, .slice a21 x0.Cells.length p22, .int .i64 x0.Cursor, .bool x0.Locked, .bool x0.Insert], .int .u8 x1]) (rs := [.cell 4 29]) (N := 125) Tryd.func17 rfl rfl rfl rfl ?_
 refine st 2 [] (k_op (nB hs [.int .i64 x0.Rows, .int .i64 x0.Cols, .slice a21 x0.Cells.length p22, .int .i64 x0.Cursor, .bool x0.Locked, .bool x0.Insert] ?_))
 intro b25 h hs
 refine k_op (nA hs [.int .u8 0, .int .i64 0, .slice none 0 0] (.agg #[.int .u8 0, .int .i64 0, .slice none 0 0]) ?_)
 intro b26 h hs
 refine st 5 [] (k_call H (fun _ m => shutterref05_Bare.calls m) ?_)
 rintro t27 _ _ H ⟨rfl, rfl⟩
 cases t27
 ·rw [cond_false] at H
  refine st 7 [false] (k_op (lB (hs.bl d1) 3 rfl ?_))
  refine st 1 [] (k_op (nA hs [.int .u8 0, .int .i64 0, .slice none 0 0] (.agg #[.int .u8 0, .int .i64 0, .slice none 0 0]) ?_))
  intro b28 h hs
  refine k_op (sN hs 0 [.int .u8 x1, .int .i64 x0.Cursor, .slice none 0 0] [.int .u8 x1, .int .i64 x0.Cursor, .slice none 0 0] (ones_of rfl) ?_)
  intro h hs
  refine st 3 [] ?_
  obtain ⟨j31, e156, H⟩ := letJ_some H
  refine k_join (fun ρ h => ∃ (x30 : Bool) (I : Gh), j31 x30 = some r ∧ Fits [(2, .pointer (some ⟨b25, 0, none⟩)), (4, .pointer (some ⟨b26, 0, none⟩)), (5, .pointer (some ⟨b28, 0, none⟩)), (22, .bool x30)] ρ ∧ St E [rR t_api_Cell .b a21 p22 x0.Cells.length x0.Cells, rB b25 [.int .i64 x0.Rows, .int .i64 x0.Cols, .slice a21 x0.Cells.length p22, .int .i64 x0.Cursor, .bool x0.Locked, .bool x0.Insert] 24, rB b26 [.int .u8 0, .int .i64 0, .slice none 0 0] 29, rB b28 [.int .u8 x1, .int .i64 x0.Cursor, .slice none 0 0] 29] I h) ?_ ?_
  ·refine st 1 [] (k_op (lN (hs.bl d2) 0 6 ?_))
   obtain ⟨hk, bk⟩ := hs.call tk0 (.c (qB d3) .n)
   refine k_call H (fun _ m => shutterref11_Formatted.calls m hk) ?_
   rintro t29 _ h H ⟨I, _, ⟨rfl, rfl⟩, hk⟩
   replace hs := bk hk ct0 rfl
   cases t29
   ·rw [cond_false] at H
    refine st 2 [] ?_
    exact k_end ⟨true, I, H, ⟨by kernel_rfl, by kernel_rfl, by kernel_rfl, by kernel_rfl, trivial⟩, hs.pk (.c d3 (.c d2 (.c d1 (.c d0 .n))))⟩
   ·rw [cond_true] at H
    refine st 2 [] ?_
    exact k_end ⟨false, I, H, ⟨by kernel_rfl, by kernel_rfl, by kernel_rfl, by kernel_rfl, trivial⟩, hs.pk (.c d3 (.c d2 (.c d1 (.c d0 .n))))⟩
  ·clear H
   rintro ρ h ⟨x30, I, H, hf, hs⟩
   refine k_fits _ hf ?_ rfl
   subst e156
   try dsimp only at H
   cases x30
   ·rw [cond_false] at H
    refine st 8 [false] ?_
    obtain ⟨s85, m94, HR93⟩ := bind_some H
    refine k_loop 2 (fun k' ρ h => ∃ (x77 : Int) (x78 : Int) (x79 : Int) (x80 : List api_Entry) (a81 : Option Addr) (p82 : Nat) (n83 : Nat) (I : Gh), shutterref18_Modified.l2.m K x0 k' x77 x78 x79 x80 = some s85 ∧ Fits [(2, .pointer (some ⟨b25, 0, none⟩)), (4, .pointer (some ⟨b26, 0, none⟩)), (5, .pointer (some ⟨b28, 0, none⟩)), (8, .int .i64 x77)] ρ ∧ St E [rR t_api_Cell .b a21 p22 x0.Cells.length x0.Cells, rB b25 [.int .i64 x0.Rows, .int .i64 x0.Cols, .slice a21 x0.Cells.length p22, .int .i64 x0.Cursor, .bool x0.Locked, .bool x0.Insert] 24, rB b26 [.int .u8 0, .int .i64 0, .slice none 0 0] 29, rO t_api_Entry .i a81 p82 n83 x80, rB b28 [.int .u8 x78, .int .i64 x79, .slice a81 n83 p82] 29] I h) (fun ρ h => ∃ (x86 : Int) (x87 : Int) (x88 : List api_Entry) (a89 : Option Addr) (p90 : Nat) (n91 : Nat) (I : Gh), (x86, x87, x88) = s85 ∧ Fits [(4, .pointer (some ⟨b26, 0, none⟩)), (5, .pointer (some ⟨b28, 0, none⟩))] ρ ∧ St E [rB b26 [.int .u8 0, .int .i64 0, .slice none 0 0] 29, rO t_api_Entry .i a89 p90 n91 x88, rB b28 [.int .u8 x86, .int .i64 x87, .slice a89 n91 p90] 29] I h) K ⟨0, x1, x0.Cursor, [], none, 0, 0, I, m94, ⟨by kernel_rfl, by kernel_rfl, by kernel_rfl, by kernel_rfl, trivial⟩, hs.pk (.c d0 (.c d0 (.c d0 (.f imON (.c d0 .n)))))⟩ ?_ rfl ?_
    ·clear HR93 m94 H
     rintro k' ρ h ⟨x77, x78, x79, x80, a81, p82, n83, I, H, hf, hs⟩
     cases k' with
     | zero => cases H
     | succ k =>
      rw [shutterref18_Modified.l2.m] at H
      refine k_fits _ hf ?_ rfl
      obtain rfl := hs.nO d3
      refine st 5 [] (k_op (lB (hs.bl d1) 2 rfl ?_))
      refine st 1 [] (k_ite H (fun c95 H => ?_) (fun c95 H => ?_))
      ·refine st 9 [true] (k_op (lB (hs.bl d1) 2 rfl ?_))
       obtain ⟨c96, H⟩ := guard_pos H
       refine st 1 [] (k_val (elemPtr a21 (x77.toNat * 6)) (pI (e := 83) (ik := .i64) (hs.sR d0) c96 c95) ?_)
       refine k_val (elemPtr a21 (x77.toNat * 6 + 0)) (pF (off := 0) (hs.sR d0) c96 c95) ?_
       obtain ⟨y98, g97, q99⟩ := (hs.sR d0).toSl.seg c96 c95
       obtain rfl := t_api_Cell.open_ q99
       refine k_op (lC (seg_cell (f := 0) g97 rfl) ?_)
       refine k_spl H (fun c100 H => ?_) (fun c100 H => ?_)
       ·refine st 3 [] (k_op (lB (hs.bl d1) 2 rfl ?_))
        refine st 1 [] (k_val (elemPtr a21 (x77.toNat * 6)) (pI (e := 83) (ik := .i64) (hs.sR d0) c96 c95) ?_)
        refine k_val (elemPtr a21 (x77.toNat * 6 + 1)) (pF (off := 1) (hs.sR d0) c96 c95) ?_
        refine k_val (elemPtr a21 (x77.toNat * 6 + 1 + 3)) (pF (off := 3) (hs.sR d0) c96 c95) ?_
        refine k_op (lC (seg_cell (f := 4) g97 rfl) ?_)
        refine k_spl H (fun c101 H => ?_) (fun c101 H => ?_)
        ·refine st 7 [false] (k_op (lN (hs.bl d1) 0 6 ?_))
         obtain ⟨hk, bk⟩ := hs.call tk0 (.c (qB d0) .n)
         refine st 1 [] (k_call H (fun _ m => shutterref11_Cells.calls m hk) ?_)
         rintro t102 _ h H ⟨I, _, ⟨a103, p104, n105, rfl, rfl⟩, hk⟩
         replace hs := bk hk ct1 rfl
         obtain rfl := hs.nO d0
         refine st 4 [] (k_op (lN (hs.bl d2) 0 6 ?_))
         obtain ⟨hk, bk⟩ := hs.call tk0 (.c (qB d1) .n)
         refine st 1 [] (k_call H (fun _ m => shutterref10_Next.calls m hk) ?_)
         rintro t107 _ h H ⟨I, _, ⟨rfl, rfl⟩, hk⟩
         replace hs := bk hk ct0 rfl
         refine st 1 [] (k_op (nA hs [.int .i64 0, .slice none 0 0] (.agg #[.int .i64 0, .slice none 0 0]) ?_))
         intro b108 h hs
         refine k_op (sN hs 0 [.int .i64 t107, .slice none 0 0] [.int .i64 t107, .slice none 0 0] (ones_of rfl) ?_)
         intro h hs
         refine st 7 [] ?_
         obtain ⟨s116, m124, HR123⟩ := bind_some H
         refine k_loop 4 (fun k' ρ h => ∃ (x109 : Int) (x110 : Int) (x111 : List Int) (a112 : Option Addr) (p113 : Nat) (n114 : Nat) (I : Gh), shutterref18_Modified.l3.m K x0 t102 k' x109 x110 x111 = some s116 ∧ Fits [(2, .pointer (some ⟨b25, 0, none⟩)), (4, .pointer (some ⟨b26, 0, none⟩)), (5, .pointer (some ⟨b28, 0, none⟩)), (8, .int .i64 x77), (9, .slice a103 t102.length p104), (10, .pointer (some ⟨b108, 0, none⟩)), (11, .int .i64 x109), (72, .pointer (some ⟨b25, 2, none⟩)), (73, .slice a21 x0.Cells.length p22), (74, .int .i64 x77), (78, .bool true), (79, .bool false)] ρ ∧ St E [rO (tInt .i64) .i a103 p104 t102.length t102, rR t_api_Cell .b a21 p22 x0.Cells.length x0.Cells, rB b25 [.int .i64 x0.Rows, .int .i64 x0.Cols, .slice a21 x0.Cells.length p22, .int .i64 x0.Cursor, .bool x0.Locked, .bool x0.Insert] 24, rB b26 [.int .u8 0, .int .i64 0, .slice none 0 0] 29, rO t_api_Entry .i a81 p82 x80.length x80, rB b28 [.int .u8 x78, .int .i64 x79, .slice a81 x80.length p82] 29, rO (tInt .u8) .i a112 p113 n114 x111, rB b108 [.int .i64 x110, .slice a112 n114 p113] 53] I h) (fun ρ h => ∃ (x117 : Int) (x118 : List Int) (a119 : Option Addr) (p120 : Nat) (n121 : Nat) (I : Gh), (x117, x118) = s116 ∧ Fits [(2, .pointer (some ⟨b25, 0, none⟩)), (4, .pointer (some ⟨b26, 0, none⟩)), (5, .pointer (some ⟨b28, 0, none⟩)), (8, .int .i64 x77), (10, .pointer (some ⟨b108, 0, none⟩)), (72, .pointer (some ⟨b25, 2, none⟩)), (73, .slice a21 x0.Cells.length p22), (74, .int .i64 x77), (78, .bool true), (79, .bool false)] ρ ∧ St E [rR t_api_Cell .b a21 p22 x0.Cells.length x0.Cells, rB b25 [.int .i64 x0.Rows, .int .i64 x0.Cols, .slice a21 x0.Cells.length p22, .int .i64 x0.Cursor, .bool x0.Locked, .bool x0.Insert] 24, rB b26 [.int .u8 0, .int .i64 0, .slice none 0 0] 29, rO t_api_Entry .i a81 p82 x80.length x80, rB b28 [.int .u8 x78, .int .i64 x79, .slice a81 x80.length p82] 29, rO (tInt .u8) .i a119 p120 n121 x118, rB b108 [.int .i64 x117, .slice a119 n121 p120] 53] I h) K ⟨0, t107, [], none, 0, 0, I, m124, ⟨by kernel_rfl, by kernel_rfl, by kernel_rfl, by kernel_rfl, by kernel_rfl, by kernel_rfl, by kernel_rfl, by kernel_rfl, by kernel_rfl, by kernel_rfl, by kernel_rfl, by kernel_rfl, trivial⟩, hs.pk (.c d1 (.c d1 (.c d1 (.c d1 (.c d1 (.c d1 (.f imON (.c d0 .n))))))))⟩ ?_ rfl ?_
         ·clear HR123 m124 H
          rintro k' ρ h ⟨x109, x110, x111, a112, p113, n114, I, H, hf, hs⟩
          cases k' with
          | zero => cases H
          | succ k =>
           rw [shutterref18_Modified.l3.m] at H
           refine k_fits _ hf ?_ rfl
           obtain rfl := hs.nO d6
           refine st 6 [] (k_ite H (fun c125 H => ?_) (fun c125 H => ?_))
           ·refine st 6 [true] ?_
            obtain ⟨j134, e148, H⟩ := letJ_some H
            refine k_join (fun ρ h => ∃ (x133 : Bool) (I : Gh), j134 x133 = some s116 ∧ Fits [(2, .pointer (some ⟨b25, 0, none⟩)), (4, .pointer (some ⟨b26, 0, none⟩)), (5, .pointer (some ⟨b28, 0, none⟩)), (8, .int .i64 x77), (9, .slice a103 t102.length p104), (10, .pointer (some ⟨b108, 0, none⟩)), (11, .int .i64 x109), (72, .pointer (some ⟨b25, 2, none⟩)), (73, .slice a21 x0.Cells.length p22), (74, .int .i64 x77), (78, .bool true), (79, .bool false), (103, .bool x133)] ρ ∧ St E [rO (tInt .i64) .i a103 p104 t102.length t102, rR t_api_Cell .b a21 p22 x0.Cells.length x0.Cells, rB b25 [.int .i64 x0.Rows, .int .i64 x0.Cols, .slice a21 x0.Cells.length p22, .int .i64 x0.Cursor, .bool x0.Locked, .bool x0.Insert] 24, rB b26 [.int .u8 0, .int .i64 0, .slice none 0 0] 29, rO t_api_Entry .i a81 p82 x80.length x80, rB b28 [.int .u8 x78, .int .i64 x79, .slice a81 x80.length p82] 29, rO (tInt .u8) .i a112 p113 x111.length x111, rB b108 [.int .i64 x110, .slice a112 x111.length p113] 53] I h) ?_ ?_
            ·obtain ⟨hs0, bk0⟩ := hs.call tk0 (.c (qL d2) (.c (qO d0) (.c (qB d1) .n)))
             have hs := hs0
             refine k_regD hs0 10 ?_
             refine aRun [0] 9 hs.keep ?_
             refine aL 1 rfl hs.keep (ll hs0 d0 (n := 2) rfl) (nmL hs0 d0) ?_
             obtain ⟨c126, H⟩ := guard_pos H
             refine aRun [2, 3] 6 hs.keep ?_
             refine aP 4 (elemPtr a103 (x109.toNat * 1)) rfl (pI (e := 3) (ik := .i64) (hs.sR d1) c126 c125) hs.keep ?_
             refine aL 5 rfl hs.keep ((hs0.sR d1).cell1 c126 c125) (nmR hs0 d1 c126 c125) ?_
             obtain ⟨c127, H⟩ := guard_pos H
             obtain ⟨c128, H⟩ := guard_pos H
             refine aP 6 (elemPtr a21 ((at_ t102 x109).toNat * 6)) rfl (pI (e := 83) (ik := .i64) (hs.sR d2) c127 c128) hs.keep ?_
             refine aP 7 (elemPtr a21 ((at_ t102 x109).toNat * 6 + 5)) rfl (pF (off := 5) (hs.sR d2) c127 c128) hs.keep ?_
             obtain ⟨y130, g129, q131⟩ := (hs0.sR d2).toSl.seg c127 c128
             obtain rfl := t_api_Cell.open_ q131
             refine aL 8 rfl hs.keep (seg_cell (f := 5) g129 rfl) (nmR hs0 d2 c127 c128) ?_
             by_cases c132 : (at_ x0.Cells (at_ t102 x109)).Char = 0
             ·rw [if_pos c132] at H
              refine aP 9 (.bool false) rfl (pr_bool (by kernel_rfl) (neF c132)) hs.keep ?_
              replace hs := hs.pk .n
              replace hs := bk0 hs ct0 rfl
              refine aEnd ?_
              exact k_end ⟨false, I, H, ⟨by kernel_rfl, by kernel_rfl, by kernel_rfl, by kernel_rfl, by kernel_rfl, by kernel_rfl, by kernel_rfl, by kernel_rfl, by kernel_rfl, by kernel_rfl, by kernel_rfl, by kernel_rfl, by kernel_rfl, trivial⟩, hs.pk (.c d0 (.c d0 (.c d0 (.c d0 (.c d0 (.c d0 (.c d0 (.c d0 .n))))))))⟩
             ·rw [if_neg c132] at H
              refine aP 9 (.bool true) rfl (pr_bool (by kernel_rfl) (neT c132)) hs.keep ?_
              replace hs := hs.pk .n
              replace hs := bk0 hs ct0 rfl
              refine aEnd ?_
              exact k_end ⟨true, I, H, ⟨by kernel_rfl, by kernel_rfl, by kernel_rfl, by kernel_rfl, by kernel_rfl, by kernel_rfl, by kernel_rfl, by kernel_rfl, by kernel_rfl, by kernel_rfl, by kernel_rfl, by kernel_rfl, by kernel_rfl, trivial⟩, hs.pk (.c d0 (.c d0 (.c d0 (.c d0 (.c d0 (.c d0 (.c d0 (.c d0 .n))))))))⟩
            ·clear H
             rintro ρ h ⟨x133, I, H, hf, hs⟩
             refine k_fits _ hf ?_ rfl
             subst e148
             try dsimp only at H
             cases x133
             ·rw [cond_false] at H
              refine st 8 [false] ?_
              exact k_endL ⟨k, Nat.lt_succ_self _, (w64 (x109 + 1)), x110, x111, a112, p113, x111.length, I, H, ⟨by kernel_rfl, by kernel_rfl, by kernel_rfl, by kernel_rfl, by kernel_rfl, by kernel_rfl, by kernel_rfl, by kernel_rfl, by kernel_rfl, by kernel_rfl, by kernel_rfl, by kernel_rfl, trivial⟩, hs.pk (.c d0 (.c d0 (.c d0 (.c d0 (.c d0 (.c d0 (.c d0 (.c d0 .n))))))))⟩
             ·rw [cond_true] at H
              refine st 1 [true] ?_
              obtain ⟨hs0, bk0⟩ := hs.call tk0 (.c (qL d7) (.c (qL d2) (.c (qO d0) (.c (qB d1) .n))))
              have hs := hs0
              refine k_regD hs0 12 ?_
              refine aRun [0] 14 hs.keep ?_
              refine aL 1 rfl hs.keep (ll hs0 d0 (n := 1) rfl) (nmL hs0 d0) ?_
              refine aRun [2] 12 hs.keep ?_
              refine aL 3 rfl hs.keep (ll hs0 d1 (n := 2) rfl) (nmL hs0 d1) ?_
              obtain ⟨c135, H⟩ := guard_pos H
              refine aRun [4, 5] 9 hs.keep ?_
              refine aP 6 (elemPtr a103 (x109.toNat * 1)) rfl (pI (e := 3) (ik := .i64) (hs.sR d2) c135 c125) hs.keep ?_
              refine aL 7 rfl hs.keep ((hs0.sR d2).cell1 c135 c125) (nmR hs0 d2 c135 c125) ?_
              obtain ⟨c136, H⟩ := guard_pos H
              obtain ⟨c137, H⟩ := guard_pos H
              refine aP 8 (elemPtr a21 ((at_ t102 x109).toNat * 6)) rfl (pI (e := 83) (ik := .i64) (hs.sR d3) c136 c137) hs.keep ?_
              refine aP 9 (elemPtr a21 ((at_ t102 x109).toNat * 6 + 5)) rfl (pF (off := 5) (hs.sR d3) c136 c137) hs.keep ?_
              obtain ⟨y139, g138, q140⟩ := (hs0.sR d3).toSl.seg c136 c137
              obtain rfl := t_api_Cell.open_ q140
              refine aL 10 rfl hs.keep (seg_cell (f := 5) g138 rfl) (nmR hs0 d3 c136 c137) ?_
              refine aO1 11 rfl (nS (e := 5) hs .i (tInt .u8) ([(at_ x0.Cells (at_ t102 x109)).Char] : List Int) [.int .u8 ((at_ x0.Cells (at_ t102 x109)).Char)] 1 (.int .u8 0) (Reps.int (I := (Cl.G .i E.B I)) (k := .u8) (l := [(at_ x0.Cells (at_ t102 x109)).Char])) ?_)
              intro b141 h hs
              refine ⟨hs.keep, ?_⟩
              replace hs := hs.pk (.c d0 .n)
              replace hs := bk0 hs ct1 rfl
              replace hs := (hs.f d7)
              obtain ⟨l143, m144, H⟩ := bind_some H
              refine aOL 12 rfl (aO (e := 5) (bytes := 1) hs (hs.sO d1) m144 ?_)
              intro a145 p146 h hs
              refine aOL 13 rfl (owp_pure (.pointer (some ⟨b108, 1, none⟩)) (by kernel_rfl) ?_)
              refine aOL 14 rfl (sB (v := .slice a145 l143.length p146) (hs.f d8) cw1 ?_)
              intro h hs
              refine aEnd ?_
              refine st 6 [] ?_
              exact k_endL ⟨k, Nat.lt_succ_self _, (w64 (x109 + 1)), x110, l143, a145, p146, l143.length, I, H, ⟨by kernel_rfl, by kernel_rfl, by kernel_rfl, by kernel_rfl, by kernel_rfl, by kernel_rfl, by kernel_rfl, by kernel_rfl, by kernel_rfl, by kernel_rfl, by kernel_rfl, by kernel_rfl, trivial⟩, hs.pk (.c d3 (.c d3 (.c d3 (.c d3 (.c d3 (.c d3 (.c d1 (.c d0 .n))))))))⟩
           ·refine st 2 [false] ?_
            refine k_out rfl ?_
            obtain rfl := Option.some.inj H
            exact xE ⟨x110, x111, a112, p113, x111.length, I, rfl, ⟨by kernel_rfl, by kernel_rfl, by kernel_rfl, by kernel_rfl, by kernel_rfl, by kernel_rfl, by kernel_rfl, by kernel_rfl, by kernel_rfl, by kernel_rfl, trivial⟩, hs.pk (.c d1 (.c d1 (.c d1 (.c d1 (.c d1 (.c d1 (.c d1 .n)))))))⟩
         ·rintro ρ h ⟨x117, x118, a119, p120, n121, I, rfl, hf, hs⟩
          have H := HR123
          try dsimp only at H
          refine k_fits _ hf ?_ rfl
          obtain rfl := hs.nO d5
          refine st 2 [] (k_op (lB (hs.bl d4) 2 rfl ?_))
          refine k_op (lN (hs.bl d6) 0 2 ?_)
          obtain ⟨I, hs⟩ := (hs.f d5).fO
          refine k_op (nS (e := 53) hs .i t_api_Entry ([(⟨x117, x118⟩ : api_Entry)] : List api_Entry) [.int .i64 x117, .slice a119 x118.length p120] 2 (.agg #[.int .i64 0, .slice none 0 0]) (Reps.cons (T := t_api_Entry) (c := [.int .i64 x117, .slice a119 x118.length p120]) (x := (⟨x117, x118⟩ : api_Entry)) ⟨_, _, _, rfl, (hs.g d0)⟩ (.nil : Reps t_api_Entry (Cl.G .i E.B I) h [] [])) ?_)
          intro b149 h hs
          replace hs := (hs.f d5)
          obtain ⟨l151, m152, H⟩ := bind_some H
          refine k_op (aO (e := 53) (bytes := 32) hs (hs.sO d1) m152 ?_)
          intro a153 p154 h hs
          refine st 1 [] (k_op (sB (v := .slice a153 l151.length p154) (hs.f d6) cw2 ?_))
          intro h hs
          refine st 7 [] ?_
          exact k_endL ⟨k, Nat.lt_succ_self _, (w64 (x77 + 1)), x78, x79, l151, a153, p154, l151.length, I, H, ⟨by kernel_rfl, by kernel_rfl, by kernel_rfl, by kernel_rfl, trivial⟩, hs.pk (.c d4 (.c d4 (.c d4 (.c d1 (.c d0 .n)))))⟩
        ·refine st 10 [true] ?_
         exact k_endL ⟨k, Nat.lt_succ_self _, (w64 (x77 + 1)), x78, x79, x80, a81, p82, x80.length, I, H, ⟨by kernel_rfl, by kernel_rfl, by kernel_rfl, by kernel_rfl, trivial⟩, hs.pk (.c d0 (.c d0 (.c d0 (.c d0 (.c d0 .n)))))⟩
       ·refine st 19 [true] ?_
        exact k_endL ⟨k, Nat.lt_succ_self _, (w64 (x77 + 1)), x78, x79, x80, a81, p82, x80.length, I, H, ⟨by kernel_rfl, by kernel_rfl, by kernel_rfl, by kernel_rfl, trivial⟩, hs.pk (.c d0 (.c d0 (.c d0 (.c d0 (.c d0 .n)))))⟩
      ·refine st 2 [false] ?_
       refine k_out rfl ?_
       obtain rfl := Option.some.inj H
       exact xE ⟨x78, x79, x80, a81, p82, x80.length, I, rfl, ⟨by kernel_rfl, by kernel_rfl, trivial⟩, hs.pk (.c d2 (.c d2 (.c d2 .n)))⟩
    ·rintro ρ h ⟨x86, x87, x88, a89, p90, n91, I, rfl, hf, hs⟩
     have H := HR93
     try dsimp only at H
     refine k_fits _ hf ?_ rfl
     obtain rfl := hs.nO d1
     refine st 2 [] (k_op (lN (hs.bl d2) 0 3 ?_))
     refine k_op (sN hs 0 [.int .u8 x86, .int .i64 x87, .slice a89 x88.length p90] [.int .u8 x86, .int .i64 x87, .slice a89 x88.length p90] (ones_of rfl) ?_)
     intro h hs
     refine st 1 [] ?_
     refine k_retQ ?_
     obtain rfl := Option.some.inj H
     exact ⟨[.agg #[.int .u8 x86, .int .i64 x87, .slice a89 x88.length p90]], (.cons (.agg (by kernel_rfl) (by kernel_rfl) (by kernel_rfl) ((hs.bl d0).seg_ 0 3 (Nat.le_of_ble_eq_true rfl))) .nil), I, _, ⟨a89, p90, x88.length, rfl, rfl⟩, hs.pk (.c d1 .n)⟩
   ·rw [cond_true] at H
    refine st 11 [true] ?_
    obtain ⟨s38, m45, HR44⟩ := bind_some H
    refine k_loop 0 (fun k' ρ h => ∃ (x32 : List Int) (x37 : Int) (a33 : Option Addr) (p34 : Nat) (n35 : Nat) (I : Gh), shutterref18_Modified.l1.m K x0 k' x32 x37 = some s38 ∧ Fits [(2, .pointer (some ⟨b25, 0, none⟩)), (4, .pointer (some ⟨b26, 0, none⟩)), (5, .pointer (some ⟨b28, 0, none⟩)), (6, .slice a33 n35 p34), (7, .int .i64 x37)] ρ ∧ St E [rO (tInt .u8) .i a33 p34 n35 x32, rR t_api_Cell .b a21 p22 x0.Cells.length x0.Cells, rB b25 [.int .i64 x0.Rows, .int .i64 x0.Cols, .slice a21 x0.Cells.length p22, .int .i64 x0.Cursor, .bool x0.Locked, .bool x0.Insert] 24, rB b26 [.int .u8 0, .int .i64 0, .slice none 0 0] 29, rB b28 [.int .u8 x1, .int .i64 x0.Cursor, .slice none 0 0] 29] I h) (fun ρ h => ∃ (x39 : List Int) (a40 : Option Addr) (p41 : Nat) (n42 : Nat) (I : Gh), x39 = s38 ∧ Fits [(4, .pointer (some ⟨b26, 0, none⟩)), (5, .pointer (some ⟨b28, 0, none⟩)), (6, .slice a40 n42 p41)] ρ ∧ St E [rO (tInt .u8) .i a40 p41 n42 x39, rB b26 [.int .u8 0, .int .i64 0, .slice none 0 0] 29, rB b28 [.int .u8 x1, .int .i64 x0.Cursor, .slice none 0 0] 29] I h) K ⟨[], 0, none, 0, 0, I, m45, ⟨by kernel_rfl, by kernel_rfl, by kernel_rfl, by kernel_rfl, by kernel_rfl, trivial⟩, hs.pk (.f imON (.c d0 (.c d0 (.c d0 (.c d0 .n)))))⟩ ?_ rfl ?_
    ·clear HR44 m45 H
     rintro k' ρ h ⟨x32, x37, a33, p34, n35, I, H, hf, hs⟩
     cases k' with
     | zero => cases H
     | succ k =>
      rw [shutterref18_Modified.l1.m] at H
      refine k_fits _ hf ?_ rfl
      obtain rfl := hs.nO d0
      refine st 5 [] (k_op (lB (hs.bl d2) 2 rfl ?_))
      refine st 1 [] (k_ite H (fun c46 H => ?_) (fun c46 H => ?_))
      ·refine st 6 [true] ?_
       obtain ⟨j53, e65, H⟩ := letJ_some H
       refine k_join (fun ρ h => ∃ (x52 : Bool) (I : Gh), j53 x52 = some s38 ∧ Fits [(2, .pointer (some ⟨b25, 0, none⟩)), (4, .pointer (some ⟨b26, 0, none⟩)), (5, .pointer (some ⟨b28, 0, none⟩)), (6, .slice a33 x32.length p34), (7, .int .i64 x37), (36, .bool x52)] ρ ∧ St E [rO (tInt .u8) .i a33 p34 x32.length x32, rR t_api_Cell .b a21 p22 x0.Cells.length x0.Cells, rB b25 [.int .i64 x0.Rows, .int .i64 x0.Cols, .slice a21 x0.Cells.length p22, .int .i64 x0.Cursor, .bool x0.Locked, .bool x0.Insert] 24, rB b26 [.int .u8 0, .int .i64 0, .slice none 0 0] 29, rB b28 [.int .u8 x1, .int .i64 x0.Cursor, .slice none 0 0] 29] I h) ?_ ?_
       ·refine st 2 [] (k_op (lB (hs.bl d2) 2 rfl ?_))
        obtain ⟨c47, H⟩ := guard_pos H
        refine st 1 [] (k_val (elemPtr a21 (x37.toNat * 6)) (pI (e := 83) (ik := .i64) (hs.sR d1) c47 c46) ?_)
        refine k_val (elemPtr a21 (x37.toNat * 6 + 5)) (pF (off := 5) (hs.sR d1) c47 c46) ?_
        obtain ⟨y49, g48, q50⟩ := (hs.sR d1).toSl.seg c47 c46
        obtain rfl := t_api_Cell.open_ q50
        refine k_op (lC (seg_cell (f := 5) g48 rfl) ?_)
        refine k_call H (fun _ m => shutterref09_Letter.calls m) ?_
        rintro t51 _ _ H ⟨rfl, rfl⟩
        cases t51
        ·rw [cond_false] at H
         refine st 1 [] ?_
         exact k_end ⟨false, I, H, ⟨by kernel_rfl, by kernel_rfl, by kernel_rfl, by kernel_rfl, by kernel_rfl, by kernel_rfl, trivial⟩, hs.pk (.c d0 (.c d0 (.c d0 (.c d0 (.c d0 .n)))))⟩
        ·rw [cond_true] at H
         refine st 1 [] ?_
         exact k_end ⟨true, I, H, ⟨by kernel_rfl, by kernel_rfl, by kernel_rfl, by kernel_rfl, by kernel_rfl, by kernel_rfl, trivial⟩, hs.pk (.c d0 (.c d0 (.c d0 (.c d0 (.c d0 .n)))))⟩
       ·clear H
        rintro ρ h ⟨x52, I, H, hf, hs⟩
        refine k_fits _ hf ?_ rfl
        subst e65
        try dsimp only at H
        cases x52
        ·rw [cond_false] at H
         refine st 8 [false] ?_
         exact k_endL ⟨k, Nat.lt_succ_self _, x32, (w64 (x37 + 1)), a33, p34, x32.length, I, H, ⟨by kernel_rfl, by kernel_rfl, by kernel_rfl, by kernel_rfl, by kernel_rfl, trivial⟩, hs.pk (.c d0 (.c d0 (.c d0 (.c d0 (.c d0 .n)))))⟩
        ·rw [cond_true] at H
         refine st 4 [true] (k_op (lB (hs.bl d2) 2 rfl ?_))
         obtain ⟨c54, H⟩ := guard_pos H
         refine st 1 [] (k_val (elemPtr a21 (x37.toNat * 6)) (pI (e := 83) (ik := .i64) (hs.sR d1) c54 c46) ?_)
         refine k_val (elemPtr a21 (x37.toNat * 6 + 5)) (pF (off := 5) (hs.sR d1) c54 c46) ?_
         obtain ⟨y56, g55, q57⟩ := (hs.sR d1).toSl.seg c54 c46
         obtain rfl := t_api_Cell.open_ q57
         refine k_op (lC (seg_cell (f := 5) g55 rfl) ?_)
         refine k_op (nS (e := 5) hs .i (tInt .u8) ([(at_ x0.Cells x37).Char] : List Int) [.int .u8 ((at_ x0.Cells x37).Char)] 1 (.int .u8 0) (Reps.int (I := (Cl.G .i E.B I)) (k := .u8) (l := [(at_ x0.Cells x37).Char])) ?_)
         intro b58 h hs
         replace hs := (hs.f d1)
         obtain ⟨l60, m61, H⟩ := bind_some H
         refine k_op (aO (e := 5) (bytes := 1) hs (hs.sO d1) m61 ?_)
         intro a62 p63 h hs
         refine st 8 [] ?_
         exact k_endL ⟨k, Nat.lt_succ_self _, l60, (w64 (x37 + 1)), a62, p63, l60.length, I, H, ⟨by kernel_rfl, by kernel_rfl, by kernel_rfl, by kernel_rfl, by kernel_rfl, trivial⟩, hs.pk (.c d0 (.c d1 (.c d1 (.c d1 (.c d1 .n)))))⟩
      ·refine st 2 [false] ?_
       refine k_out rfl ?_
       obtain rfl := Option.some.inj H
       exact xE ⟨x32, a33, p34, x32.length, I, rfl, ⟨by kernel_rfl, by kernel_rfl, by kernel_rfl, trivial⟩, hs.pk (.c d0 (.c d2 (.c d2 .n)))⟩
    ·rintro ρ h ⟨x39, a40, p41, n42, I, rfl, hf, hs⟩
     have H := HR44
     try dsimp only at H
     refine k_fits _ hf ?_ rfl
     obtain rfl := hs.nO d0
     refine st 2 [] ?_
     obtain ⟨j68, e76, H⟩ := letJ_some H
     refine k_join (fun ρ h => ∃ (x67 : Bool) (I : Gh), j68 x67 = some r ∧ Fits [(4, .pointer (some ⟨b26, 0, none⟩)), (5, .pointer (some ⟨b28, 0, none⟩)), (6, .slice a40 x39.length p41), (48, .bool x67)] ρ ∧ St E [rO (tInt .u8) .i a40 p41 x39.length x39, rB b26 [.int .u8 0, .int .i64 0, .slice none 0 0] 29, rB b28 [.int .u8 x1, .int .i64 x0.Cursor, .slice none 0 0] 29] I h) ?_ ?_
     ·refine st 3 [] (k_ite H (fun c66 H => ?_) (fun c66 H => ?_))
      ·refine st 1 [] ?_
       exact k_end ⟨true, I, H, ⟨by kernel_rfl, by kernel_rfl, by kernel_rfl, by kernel_rfl, trivial⟩, hs.pk (.c d0 (.c d0 (.c d0 .n)))⟩
      ·refine st 1 [] ?_
       exact k_end ⟨false, I, H, ⟨by kernel_rfl, by kernel_rfl, by kernel_rfl, by kernel_rfl, trivial⟩, hs.pk (.c d0 (.c d0 (.c d0 .n)))⟩
     ·clear H
      rintro ρ h ⟨x67, I, H, hf, hs⟩
      refine k_fits _ hf ?_ rfl
      subst e76
      try dsimp only at H
      cases x67
      ·rw [cond_false] at H
       refine st 4 [false] (k_op (lN (hs.bl d2) 0 3 ?_))
       refine k_op (sN (hs.f d1) 0 [.int .u8 x1, .int .i64 x0.Cursor, .slice none 0 0] [.int .u8 x1, .int .i64 x0.Cursor, .slice none 0 0] (ones_of rfl) ?_)
       intro h hs
       refine st 1 [] ?_
       refine k_retQ ?_
       obtain rfl := Option.some.inj H
       exact ⟨[.agg #[.int .u8 x1, .int .i64 x0.Cursor, .slice none 0 0]], (.cons (.agg (by kernel_rfl) (by kernel_rfl) (by kernel_rfl) ((hs.bl d0).seg_ 0 3 (Nat.le_of_ble_eq_true rfl))) .nil), I, _, ⟨none, 0, 0, rfl, rfl⟩, hs.pk (.f imON .n)⟩
      ·rw [cond_true] at H
       refine st 3 [true] (k_op (lB (hs.bl d2) 2 rfl ?_))
       obtain ⟨I, hs⟩ := hs.fO
       refine st 2 [] (k_op (nS (e := 53) hs .i t_api_Entry ([(⟨(-1), x39⟩ : api_Entry)] : List api_Entry) [.int .i64 (-1), .slice a40 x39.length p41] 2 (.agg #[.int .i64 0, .slice none 0 0]) (Reps.cons (T := t_api_Entry) (c := [.int .i64 (-1), .slice a40 x39.length p41]) (x := (⟨(-1), x39⟩ : api_Entry)) ⟨_, _, _, rfl, (hs.g d0)⟩ (.nil : Reps t_api_Entry (Cl.G .i E.B I) h [] [])) ?_))
       intro b69 h hs
       obtain ⟨l71, m72, H⟩ := bind_some H
       refine k_op (aN (T := t_api_Entry) (e := 53) (bytes := 32) hs .i (hs.sO d0) m72 ?_)
       intro a73 p74 h hs
       refine st 1 [] (k_op (sB (v := .slice a73 l71.length p74) (hs.f d4) cw2 ?_))
       intro h hs
       refine st 3 [] (k_op (lN (hs.bl d0) 0 3 ?_))
       refine k_op (sN (hs.f d4) 0 [.int .u8 x1, .int .i64 x0.Cursor, .slice a73 l71.length p74] [.int .u8 x1, .int .i64 x0.Cursor, .slice a73 l71.length p74] (ones_of rfl) ?_)
       intro h hs
       refine st 1 [] ?_
       refine k_retQ ?_
       obtain rfl := Option.some.inj H
       exact ⟨[.agg #[.int .u8 x1, .int .i64 x0.Cursor, .slice a73 l71.length p74]], (.cons (.agg (by kernel_rfl) (by kernel_rfl) (by kernel_rfl) ((hs.bl d0).seg_ 0 3 (Nat.le_of_ble_eq_true rfl))) .nil), I, _, ⟨a73, p74, l71.length, rfl, rfl⟩, hs.pk (.c d2 .n)⟩
 ·rw [cond_true] at H
  refine st 6 [true] (k_op (sN hs 0 [.int .u8 x1, .int .i64 0, .slice none 0 0] [.int .u8 x1, .int .i64 0, .slice none 0 0] (ones_of rfl) ?_))
  intro h hs
  refine st 1 [] ?_
  refine k_retQ ?_
  obtain rfl := Option.some.inj H
  exact ⟨[.agg #[.int .u8 x1, .int .i64 0, .slice none 0 0]], (.cons (.agg (by kernel_rfl) (by kernel_rfl) (by kernel_rfl) ((hs.bl d0).seg_ 0 3 (Nat.le_of_ble_eq_true rfl))) .nil), I, _, ⟨none, 0, 0, rfl, rfl⟩, hs.pk (.f imON .n)⟩

/-! shutter/shutterlaw18.ReadModified -/
def shutterlaw18_ReadModified.m (K : Nat) (x0 : api_Screen) (x1 : Int) : Option Bool :=
  ((shutterlaw18_awake.m K).bind fun t26 => bif t26 then ((shutterref10_Few.m K x0).bind fun t27 => bif t27 then ((read_Modified.m K x0 x1).bind fun t28 => (letJ (α := Bool → Option Bool) (fun (x37 : Bool) => (bif x37 then ((api_Code.m t28.2).bind fun t39 => (if t39 = 3 then ((shutterref09_Same.m K t28.1 (⟨0, 0, []⟩ : api_In)).bind fun t41 => (some t41)) else (some false))) else (if t28.2 = GoErr.nil then ((shutterref18_Modified.m K x0 x1).bind fun t45 => ((shutterref09_Same.m K t28.1 t45).bind fun t50 => (some t50))) else (some false)))) fun (j38 : Bool → Option Bool) => ((shutterref05_Aid.m x1).bind fun t36 => bif t36 then (j38 false) else (j38 true)))) else ((shutterlaw18_awake.m K).bind fun t52 => (some t52))) else ((shutterlaw18_awake.m K).bind fun t53 => (some t53)))

theorem shutterlaw18_ReadModified.calls {B I : Gh} {h : Heap} {K : Nat} {x0 : api_Screen} {x1 : Int} {a21 : Option Addr} {p22 : Nat} {n23 : Nat} {r : Bool} (H : shutterlaw18_ReadModified.m K x0 x1 = some r)  :
    Fc Tryd.prog 3 #[.agg #[.int .i64 x0.Rows, .int .i64 x0.Cols, .slice a21 n23 p22, .int .i64 x0.Cursor, .bool x0.Locked, .bool x0.Insert], .int .u8 x1] [rR t_api_Cell .b a21 p22 n23 x0.Cells, rG] B I h (fun v L => v = .bool r ∧ L = []) := by
 refine fc_of fun E hs => ?_
 unfold shutterlaw18_ReadModified.m at H
 obtain rfl := hs.nR d0
 refine fn_of (args := [.agg #[.int .i64 x0.Rows, .int .i64 x0.Cols, .slice a21 x0.Cells.length p22, .int .i64 x0.Cursor, .bool x0.Locked, .bool x0.Insert], .int .u8 x1]) (rs := [.tmp 4]) (N := 41) Tryd.func3 rfl rfl rfl rfl ?_
 refine st 2 [] (k_op (nB hs [.int .i64 x0.Rows, .int .i64 x0.Cols, .slice a21 x0.Cells.length p22, .int .i64 x0.Cursor, .bool x0.Locked, .bool x0.Insert] ?_))
 intro b25 h hs
 obtain ⟨hk, bk⟩ := hs.call tk0 (.c (gK d2) .n)
 refine st 5 [] (k_call H (fun _ m => shutterlaw18_awake.calls m hk) ?_)
 rintro t26 _ h H ⟨I, _, ⟨rfl, rfl⟩, hk⟩
 replace hs := bk hk ct0 rfl
 cases t26
 ·rw [cond_false] at H
  obtain ⟨hk, bk⟩ := hs.call tk0 (.c (gK d2) .n)
  refine st 10 [true] (k_call H (fun _ m => shutterlaw18_awake.calls m hk) ?_)
  rintro t53 _ h H ⟨I, _, ⟨rfl, rfl⟩, hk⟩
  replace hs := bk hk ct0 rfl
  refine st 2 [] ?_
  refine k_retQ ?_
  obtain rfl := Option.some.inj H
  exact ⟨_, by kernel_rfl, I, _, ⟨rfl, rfl⟩, hs.pk .n⟩
 ·rw [cond_true] at H
  refine st 2 [] (k_op (lN (hs.bl d0) 0 6 ?_))
  obtain ⟨hk, bk⟩ := hs.call tk0 (.c (qB d1) .n)
  refine k_call H (fun _ m => shutterref10_Few.calls m hk) ?_
  rintro t27 _ h H ⟨I, _, ⟨rfl, rfl⟩, hk⟩
  replace hs := bk hk ct0 rfl
  cases t27
  ·rw [cond_false] at H
   obtain ⟨hk, bk⟩ := hs.call tk0 (.c (gK d2) .n)
   refine st 6 [true] (k_call H (fun _ m => shutterlaw18_awake.calls m hk) ?_)
   rintro t52 _ h H ⟨I, _, ⟨rfl, rfl⟩, hk⟩
   replace hs := bk hk ct0 rfl
   refine st 2 [] ?_
   refine k_retQ ?_
   obtain rfl := Option.some.inj H
   exact ⟨_, by kernel_rfl, I, _, ⟨rfl, rfl⟩, hs.pk .n⟩
  ·rw [cond_true] at H
   refine st 7 [false] (k_op (lN (hs.bl d0) 0 6 ?_))
   obtain ⟨hk, bk⟩ := hs.call tk0 (.c (qB d1) .n)
   refine st 1 [] (k_call H (fun _ m => read_Modified.calls m hk) ?_)
   rintro t28 _ h H ⟨I, _, ⟨a29, p30, n31, v33, rfl, rfl⟩, hk⟩
   replace hs := bk hk ct2 rfl
   obtain rfl := hs.nO d0
   refine st 3 [] (k_op (nA hs [.int .u8 0, .int .i64 0, .slice none 0 0] (.agg #[.int .u8 0, .int .i64 0, .slice none 0 0]) ?_))
   intro b35 h hs
   refine k_op (sN hs 0 [.int .u8 t28.1.Aid, .int .i64 t28.1.Cursor, .slice a29 t28.1.Fields.length p30] [.int .u8 t28.1.Aid, .int .i64 t28.1.Cursor, .slice a29 t28.1.Fields.length p30] (ones_of rfl) ?_)
   intro h hs
   refine st 4 [] ?_
   obtain ⟨j38, e51, H⟩ := letJ_some H
   refine k_join (fun ρ h => ∃ (x37 : Bool) (I : Gh), j38 x37 = some r ∧ Fits [(1, .int .u8 x1), (2, .pointer (some ⟨b25, 0, none⟩)), (5, .pointer (some ⟨b35, 0, none⟩)), (6, v33), (23, .bool x37)] ρ ∧ St E [rE .i v33 t28.2, rR t_api_Cell .b a21 p22 x0.Cells.length x0.Cells, rB b25 [.int .i64 x0.Rows, .int .i64 x0.Cols, .slice a21 x0.Cells.length p22, .int .i64 x0.Cursor, .bool x0.Locked, .bool x0.Insert] 24, rO t_api_Entry .i a29 p30 t28.1.Fields.length t28.1.Fields, rB b35 [.int .u8 t28.1.Aid, .int .i64 t28.1.Cursor, .slice a29 t28.1.Fields.length p30] 29, rG] I h) ?_ ?_
   ·refine st 2 [] (k_call H (fun _ m => shutterref05_Aid.calls m) ?_)
    rintro t36 _ _ H ⟨rfl, rfl⟩
    cases t36
    ·rw [cond_false] at H
     refine st 2 [] ?_
     exact k_end ⟨true, I, H, ⟨by kernel_rfl, by kernel_rfl, by kernel_rfl, by kernel_rfl, by kernel_rfl, trivial⟩, hs.pk (.c d2 (.c d3 (.c d2 (.c d1 (.c d0 (.c d0 .n))))))⟩
    ·rw [cond_true] at H
     refine st 2 [] ?_
     exact k_end ⟨false, I, H, ⟨by kernel_rfl, by kernel_rfl, by kernel_rfl, by kernel_rfl, by kernel_rfl, trivial⟩, hs.pk (.c d2 (.c d3 (.c d2 (.c d1 (.c d0 (.c d0 .n))))))⟩
   ·clear H
    rintro ρ h ⟨x37, I, H, hf, hs⟩
    refine k_fits _ hf ?_ rfl
    subst e51
    try dsimp only at H
    cases x37
    ·rw [cond_false] at H
     refine st 3 [false] ?_
     obtain ⟨hs0, bk0⟩ := hs.call tk0 (.c (xK d0) (.c (qL d4) (.c (qL d2) (.c (qB d1) (.c (qO d3) .n)))))
     have hs := hs0
     refine k_regD hs0 10 ?_
     refine aRun [0] 9 hs.keep ?_
     rcases (hs.er d0).cases with ⟨c42, rfl⟩ | ⟨c42, t43, u44, rfl⟩
     ·rw [if_pos c42] at H
      refine aRun [1, 2] 7 hs.keep ?_
      refine aG 3 rfl hs.keep (lls hs0 d1 0 3 rfl) (nmL hs0 d1) ?_
      refine aG 4 rfl hs.keep (lls hs0 d2 0 6 rfl) (nmL hs0 d2) ?_
      refine aRun [5] 4 hs.keep ?_
      obtain ⟨hk, bk⟩ := hs.call tk0 (.c (qB d3) .n)
      refine aO1 6 rfl (o_call H (fun _ m => shutterref18_Modified.calls m hk) ?_)
      rintro t45 _ h H ⟨I, _, ⟨a46, p47, n48, rfl, rfl⟩, hk⟩
      replace hs := bk hk ct1 rfl
      obtain rfl := hs.nO d0
      refine ⟨hs.keep, ?_⟩
      obtain ⟨hk, bk⟩ := hs.call tk0 (.c (qB d5) (.c (qO d0) .n))
      refine aO1 7 rfl (o_call H (fun _ m => shutterref09_Same.calls m hk) ?_)
      rintro t50 _ h H ⟨I, _, ⟨rfl, rfl⟩, hk⟩
      replace hs := bk hk ct0 rfl
      refine ⟨hs.keep, ?_⟩
      refine aRun [8, 9] 0 hs.keep ?_
      replace hs := hs.pk (.c d0 .n)
      replace hs := bk0 hs ct1 rfl
      refine aEnd ?_
      refine k_retQ ?_
      obtain rfl := Option.some.inj H
      exact ⟨_, by kernel_rfl, I, _, ⟨rfl, rfl⟩, hs.pk .n⟩
     ·rw [if_neg c42] at H
      refine aRun [1, 2, 3, 4, 5, 6, 7, 8, 9] 0 hs.keep ?_
      replace hs := hs.pk .n
      replace hs := bk0 hs ct0 rfl
      refine aEnd ?_
      refine k_retQ ?_
      obtain rfl := Option.some.inj H
      exact ⟨_, by kernel_rfl, I, _, ⟨rfl, rfl⟩, hs.pk .n⟩
    ·rw [cond_true] at H
     obtain ⟨hk, bk⟩ := hs.call tk0 (.c (xI d0) (.c (gK d5) .n))
     refine st 4 [true] (k_call H (fun _ m => api_Code.calls m hk) ?_)
     rintro t39 _ h H ⟨I, _, ⟨rfl, rfl⟩, hk⟩
     replace hs := bk hk ct0 rfl
     refine k_ite H (fun c40 H => ?_) (fun c40 H => ?_)
     ·refine st 1 [] (k_op (lN (hs.bl d4) 0 3 ?_))
      obtain ⟨hk, bk⟩ := hs.call tk0 (.c (qO d3) (.c qN .n))
      refine st 1 [] (k_call H (fun _ m => shutterref09_Same.calls m hk) ?_)
      rintro t41 _ h H ⟨I, _, ⟨rfl, rfl⟩, hk⟩
      replace hs := bk hk ct0 rfl
      refine st 3 [] ?_
      refine k_retQ ?_
      obtain rfl := Option.some.inj H
      exact ⟨_, by kernel_rfl, I, _, ⟨rfl, rfl⟩, hs.pk .n⟩
     ·refine st 7 [] ?_
      refine k_retQ ?_
      obtain rfl := Option.some.inj H
      exact ⟨_, by kernel_rfl, I, _, ⟨rfl, rfl⟩, hs.pk .n⟩

/-! shutter/shutterref07.Same -/
def shutterref07_Same.m (K : Nat) (x0 : api_Order) (x1 : api_Order) : Option Bool :=
  (if x0.Kind = x1.Kind then ((shutterref01_Same.m K x0.Text x1.Text).bind fun t32 => bif t32 then (bif ((x0.Attr.Protected == x1.Attr.Protected) && ((x0.Attr.Numeric == x1.Attr.Numeric) && ((x0.Attr.Show == x1.Attr.Show) && ((x0.Attr.Modified == x1.Attr.Modified) && true)))) then (if x0.Addr = x1.Addr then (some (x0.Char == x1.Char)) else (some false)) else (some false)) else (some false)) else (some false))

theorem shutterref07_Same.calls {B I : Gh} {h : Heap} {K : Nat} {x0 : api_Order} {x1 : api_Order} {a21 : Option Addr} {p22 : Nat} {n23 : Nat} {a25 : Option Addr} {p26 : Nat} {n27 : Nat} {r : Bool} (H : shutterref07_Same.m K x0 x1 = some r)  :
    Fc Tryd.prog 47 #[.agg #[.int .i64 x0.Kind, .slice a21 n23 p22, .bool x0.Attr.Protected, .bool x0.Attr.Numeric, .int .i64 x0.Attr.Show, .bool x0.Attr.Modified, .int .i64 x0.Addr, .int .u8 x0.Char], .agg #[.int .i64 x1.Kind, .slice a25 n27 p26, .bool x1.Attr.Protected, .bool x1.Attr.Numeric, .int .i64 x1.Attr.Show, .bool x1.Attr.Modified, .int .i64 x1.Addr, .int .u8 x1.Char]] [rR (tInt .u8) .b a21 p22 n23 x0.Text, rR (tInt .u8) .b a25 p26 n27 x1.Text] B I h (fun v L => v = .bool r ∧ L = []) := by
 refine fc_of fun E hs => ?_
 unfold shutterref07_Same.m at H
 obtain rfl := hs.nR d0
 obtain rfl := hs.nR d1
 refine fn_of (args := [.agg #[.int .i64 x0.Kind, .slice a21 x0.Text.length p22, .bool x0.Attr.Protected, .bool x0.Attr.Numeric, .int .i64 x0.Attr.Show, .bool x0.Attr.Modified, .int .i64 x0.Addr, .int .u8 x0.Char], .agg #[.int .i64 x1.Kind, .slice a25 x1.Text.length p26, .bool x1.Attr.Protected, .bool x1.Attr.Numeric, .int .i64 x1.Attr.Show, .bool x1.Attr.Modified, .int .i64 x1.Addr, .int .u8 x1.Char]]) (rs := [.tmp 4]) (N := 38) Tryd.func47 rfl rfl rfl rfl ?_
 refine st 2 [] (k_op (nB hs [.int .i64 x0.Kind, .slice a21 x0.Text.length p22, .bool x0.Attr.Protected, .bool x0.Attr.Numeric, .int .i64 x0.Attr.Show, .bool x0.Attr.Modified, .int .i64 x0.Addr, .int .u8 x0.Char] ?_))
 intro b29 h hs
 refine k_op (nB hs [.int .i64 x1.Kind, .slice a25 x1.Text.length p26, .bool x1.Attr.Protected, .bool x1.Attr.Numeric, .int .i64 x1.Attr.Show, .bool x1.Attr.Modified, .int .i64 x1.Addr, .int .u8 x1.Char] ?_)
 intro b30 h hs
 refine st 5 [] (k_op (lB (hs.bl d1) 0 rfl ?_))
 refine st 1 [] (k_op (lB (hs.bl d0) 0 rfl ?_))
 refine k_ite H (fun c31 H => ?_) (fun c31 H => ?_)
 ·refine st 2 [] (k_op (lB (hs.bl d1) 1 rfl ?_))
  refine st 1 [] (k_op (lB (hs.bl d0) 1 rfl ?_))
  refine k_call H (fun _ m => shutterref01_Same.calls m (hs.sR d2) (hs.sR d3)) ?_
  rintro t32 _ _ H ⟨rfl, rfl⟩
  cases t32
  ·rw [cond_false] at H
   refine st 24 [] ?_
   refine k_retQ ?_
   obtain rfl := Option.some.inj H
   exact ⟨_, by kernel_rfl, I, _, ⟨rfl, rfl⟩, hs.pk .n⟩
  ·rw [cond_true] at H
   refine st 3 [] (k_op (lN (hs.bl d1) 2 4 ?_))
   refine st 1 [] (k_op (lN (hs.bl d0) 2 4 ?_))
   rcases bool_or ((x0.Attr.Protected == x1.Attr.Protected) && ((x0.Attr.Numeric == x1.Attr.Numeric) && ((x0.Attr.Show == x1.Attr.Show) && ((x0.Attr.Modified == x1.Attr.Modified) && true)))) with c33 | c33
   ·replace H := bif_f c33 H
    refine k_op (owp_run (.bool false) (run_bool (run_eqAgg (xs := #[.bool x0.Attr.Protected, .bool x0.Attr.Numeric, .int .i64 x0.Attr.Show, .bool x0.Attr.Modified]) (ys := #[.bool x1.Attr.Protected, .bool x1.Attr.Numeric, .int .i64 x1.Attr.Show, .bool x1.Attr.Modified]) (by kernel_rfl) (by kernel_rfl) (by kernel_rfl) (eqB_run (b := ((x0.Attr.Protected == x1.Attr.Protected) && ((x0.Attr.Numeric == x1.Attr.Numeric) && ((x0.Attr.Show == x1.Attr.Show) && ((x0.Attr.Modified == x1.Attr.Modified) && true))))) (by kernel_rfl))) c33) ?_)
    refine st 17 [] ?_
    refine k_retQ ?_
    obtain rfl := Option.some.inj H
    exact ⟨_, by kernel_rfl, I, _, ⟨rfl, rfl⟩, hs.pk .n⟩
   ·replace H := bif_t c33 H
    refine k_op (owp_run (.bool true) (run_bool (run_eqAgg (xs := #[.bool x0.Attr.Protected, .bool x0.Attr.Numeric, .int .i64 x0.Attr.Show, .bool x0.Attr.Modified]) (ys := #[.bool x1.Attr.Protected, .bool x1.Attr.Numeric, .int .i64 x1.Attr.Show, .bool x1.Attr.Modified]) (by kernel_rfl) (by kernel_rfl) (by kernel_rfl) (eqB_run (b := ((x0.Attr.Protected == x1.Attr.Protected) && ((x0.Attr.Numeric == x1.Attr.Numeric) && ((x0.Attr.Show == x1.Attr.Show) && ((x0.Attr.Modified == x1.Attr.Modified) && true))))) (by kernel_rfl))) c33) ?_)
    refine st 3 [] (k_op (lB (hs.bl d1) 6 rfl ?_))
    refine st 1 [] (k_op (lB (hs.bl d0) 6 rfl ?_))
    refine k_ite H (fun c34 H => ?_) (fun c34 H => ?_)
    ·refine st 3 [] (k_op (lB (hs.bl d1) 7 rfl ?_))
     refine st 1 [] (k_op (lB (hs.bl d0) 7 rfl ?_))
     refine st 4 [] ?_
     refine k_retQ ?_
     obtain rfl := Option.some.inj H
     exact ⟨_, by kernel_rfl, I, _, ⟨rfl, rfl⟩, hs.pk .n⟩
    ·refine st 10 [] ?_
     refine k_retQ ?_
     obtain rfl := Option.some.inj H
     exact ⟨_, by kernel_rfl, I, _, ⟨rfl, rfl⟩, hs.pk .n⟩
 ·refine st 30 [] ?_
  refine k_retQ ?_
  obtain rfl := Option.some.inj H
  exact ⟨_, by kernel_rfl, I, _, ⟨rfl, rfl⟩, hs.pk .n⟩

end Go.Proofs.YtpkcckaaocannaaDoor.Sx
