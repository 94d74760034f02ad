/- Printed walks, part 1: each function's model, and that the code comes to it. -/
import Derived.Test.YtfbcjibdgicaoaaGreatDoorProg
import Derived.Test.YtfbcjibdgicaoaaGreatDoorV4
import Derived.Test.YtfbcjibdgicaoaaGreatDoorVF
import Derived.Test.YtfbcjibdgicaoaaGreatDoorV6
import Derived.Test.YtfbcjibdgicaoaaGreatDoorV7
import Derived.Test.YtfbcjibdgicaoaaGreatDoorG0
namespace Go.Proofs.YtfbcjibdgicaoaaGreatDoor.Sx
open Go
set_option maxRecDepth 100000
set_option maxHeartbeats 4000000

/-! shutter/shutterlaw18.awake -/
def shutterlaw18_awake.m (K : Nat)  : Option Bool :=
  ((read_Modified.m K (⟨1, 3, [(⟨true, (⟨false, false, 0, true⟩ : api_Attr), 0⟩ : api_Cell), (⟨false, (⟨false, false, 0, false⟩ : api_Attr), 193⟩ : api_Cell), (⟨false, (⟨false, false, 0, false⟩ : api_Attr), 0⟩ : api_Cell)], 2, false, false⟩ : api_Screen) 125).bind fun t24 => ((read_Image.m K (⟨1, 3, [(⟨true, (⟨false, false, 0, true⟩ : api_Attr), 0⟩ : api_Cell), (⟨false, (⟨false, false, 0, false⟩ : api_Attr), 193⟩ : api_Cell), (⟨false, (⟨false, false, 0, false⟩ : api_Attr), 0⟩ : api_Cell)], 2, false, false⟩ : api_Screen)).bind fun t32 => ((read_Modified.m K (⟨1, 3, [(⟨true, (⟨false, false, 0, true⟩ : api_Attr), 0⟩ : api_Cell), (⟨false, (⟨false, false, 0, false⟩ : api_Attr), 193⟩ : api_Cell), (⟨false, (⟨false, false, 0, false⟩ : api_Attr), 0⟩ : api_Cell)], 2, false, false⟩ : api_Screen) 96).bind fun t37 => (if t24.2 = GoErr.nil then (if t24.1.Cursor = 2 then (if (t24.1.Fields.length : Int) = 1 then (if 0 < (t24.1.Fields.length : Int) then (if (at_ t24.1.Fields 0).Addr = 1 then (if (((at_ t24.1.Fields 0).Text).length : Int) = 1 then (if (t32.length : Int) = 5 then ((api_Code.m t37.2).bind fun t62 => (some (t62 == 3))) else (some false)) else (some false)) else (some false)) else none) else (some false)) else (some false)) else (some false)))))

theorem shutterlaw18_awake.calls {B I : Gh} {h : Heap} {K : Nat} {r : Bool} (H : shutterlaw18_awake.m K = some r)  :
    Fc Tryz.prog 6 #[] [rG] B I h (fun v L => v = .bool r ∧ L = []) := by
 refine fc_of fun E hs => ?_
 unfold shutterlaw18_awake.m at H
 refine fn_of (args := []) (rs := [.tmp 0]) (N := 65) Tryz.func6 rfl rfl rfl rfl ?_
 refine st 10 [] (k_op (nS (e := 57) hs .i t_api_Cell ([(⟨true, (⟨false, false, 0, true⟩ : api_Attr), 0⟩ : api_Cell), (⟨false, (⟨false, false, 0, false⟩ : api_Attr), 193⟩ : api_Cell), (⟨false, (⟨false, false, 0, false⟩ : api_Attr), 0⟩ : api_Cell)] : List api_Cell) [.bool true, .bool false, .bool false, .int .i64 0, .bool true, .int .u8 0, .bool false, .bool false, .bool false, .int .i64 0, .bool false, .int .u8 193, .bool false, .bool false, .bool false, .int .i64 0, .bool false, .int .u8 0] 6 (.agg #[.bool false, .bool false, .bool false, .int .i64 0, .bool false, .int .u8 0]) (Reps.cons (T := t_api_Cell) (c := [.bool true, .bool false, .bool false, .int .i64 0, .bool true, .int .u8 0]) (x := (⟨true, (⟨false, false, 0, true⟩ : api_Attr), 0⟩ : api_Cell)) rfl (Reps.cons (T := t_api_Cell) (c := [.bool false, .bool false, .bool false, .int .i64 0, .bool false, .int .u8 193]) (x := (⟨false, (⟨false, false, 0, false⟩ : api_Attr), 193⟩ : api_Cell)) rfl (Reps.cons (T := t_api_Cell) (c := [.bool false, .bool false, .bool false, .int .i64 0, .bool false, .int .u8 0]) (x := (⟨false, (⟨false, false, 0, false⟩ : api_Attr), 0⟩ : api_Cell)) rfl (.nil : Reps t_api_Cell (Cl.G .i E.B I) h [] [])))) ?_))
 intro b21 h hs
 refine st 1 [] (k_op (nA hs [.int .i64 0, .int .i64 0, .slice none 0 0, .int .i64 0, .bool false, .bool false] (.agg #[.int .i64 0, .int .i64 0, .slice none 0 0, .int .i64 0, .bool false, .bool false]) ?_))
 intro b23 h hs
 refine k_op (sN hs 0 [.int .i64 1, .int .i64 3, .slice (some ⟨b21, 0, none⟩) 3 3, .int .i64 2, .bool false, .bool false] [.int .i64 1, .int .i64 3, .slice (some ⟨b21, 0, none⟩) 3 3, .int .i64 2, .bool false, .bool false] (ones_of rfl) ?_)
 intro h hs
 refine st 3 [] (k_op (lN (hs.bl d0) 0 6 ?_))
 obtain ⟨hk, bk⟩ := hs.call tk0 (.c (qO d1) .n)
 refine k_call H (fun _ m => read_Modified.calls m hk) ?_
 rintro t24 _ h H ⟨I, _, ⟨a25, p26, n27, v29, rfl, rfl⟩, hk⟩
 replace hs := bk hk ct2 rfl
 obtain rfl := hs.nO d0
 refine st 3 [] (k_op (nA hs [.int .u8 0, .int .i64 0, .slice none 0 0] (.agg #[.int .u8 0, .int .i64 0, .slice none 0 0]) ?_))
 intro b31 h hs
 refine k_op (sN hs 0 [.int .u8 t24.1.Aid, .int .i64 t24.1.Cursor, .slice a25 t24.1.Fields.length p26] [.int .u8 t24.1.Aid, .int .i64 t24.1.Cursor, .slice a25 t24.1.Fields.length p26] (ones_of rfl) ?_)
 intro h hs
 refine st 4 [] (k_op (lN (hs.bl d3) 0 6 ?_))
 obtain ⟨hk, bk⟩ := hs.call tk0 (.c (qO d4) .n)
 refine k_call H (fun _ m => read_Image.calls m hk) ?_
 rintro t32 _ h H ⟨I, _, ⟨a33, p34, n35, rfl, rfl⟩, hk⟩
 replace hs := bk hk ct1 rfl
 obtain rfl := hs.nO d0
 refine st 4 [] (k_op (lN (hs.bl d4) 0 6 ?_))
 obtain ⟨hk, bk⟩ := hs.call tk0 (.c (qO d5) .n)
 refine k_call H (fun _ m => read_Modified.calls m hk) ?_
 rintro t37 _ h H ⟨I, _, ⟨a38, p39, n40, v42, rfl, rfl⟩, hk⟩
 replace hs := bk hk ct2 rfl
 obtain rfl := hs.nO d0
 refine st 3 [] (k_op (nA hs [.int .u8 0, .int .i64 0, .slice none 0 0] (.agg #[.int .u8 0, .int .i64 0, .slice none 0 0]) ?_))
 intro b44 h hs
 refine k_op (sN hs 0 [.int .u8 t37.1.Aid, .int .i64 t37.1.Cursor, .slice a38 t37.1.Fields.length p39] [.int .u8 t37.1.Aid, .int .i64 t37.1.Cursor, .slice a38 t37.1.Fields.length p39] (ones_of rfl) ?_)
 intro h hs
 rcases (hs.er d6).cases with ⟨c45, rfl⟩ | ⟨c45, t46, u47, rfl⟩
 ·rw [if_pos c45] at H
  refine st 8 [] (k_op (lB (hs.bl d4) 1 rfl ?_))
  refine k_ite H (fun c48 H => ?_) (fun c48 H => ?_)
  ·refine st 3 [] (k_op (lB (hs.bl d4) 2 rfl ?_))
   refine st 1 [] (k_ite H (fun c49 H => ?_) (fun c49 H => ?_))
   ·refine st 3 [] (k_op (lB (hs.bl d4) 2 rfl ?_))
    obtain ⟨c50, H⟩ := guard_pos H
    refine k_val (elemPtr a25 ((0 : Int).toNat * 2)) (pI (e := 67) (ik := .i64) (hs.sO d5) (by decide) c50) ?_
    refine k_val (elemPtr a25 ((0 : Int).toNat * 2 + 0)) (pF (off := 0) (hs.sO d5) (by decide) c50) ?_
    obtain ⟨y52, g51, q53⟩ := (hs.sO d5).toSl.seg (by decide) c50
    obtain ⟨a54, p55, n56, rfl, q58⟩ := t_api_Entry.open_ q53
    obtain rfl := q58.2
    replace hs := hs.pR q58
    refine k_op (lC (seg_cell (f := 0) g51 rfl) ?_)
    refine k_ite H (fun c59 H => ?_) (fun c59 H => ?_)
    ·refine st 3 [] (k_op (lB (hs.bl d5) 2 rfl ?_))
     refine k_val (elemPtr a25 ((0 : Int).toNat * 2)) (pI (e := 67) (ik := .i64) (hs.sO d6) (by decide) c50) ?_
     refine k_val (elemPtr a25 ((0 : Int).toNat * 2 + 1)) (pF (off := 1) (hs.sO d6) (by decide) c50) ?_
     refine k_op (lC (seg_cell (f := 1) g51 rfl) ?_)
     refine st 1 [] (k_ite H (fun c60 H => ?_) (fun c60 H => ?_))
     ·refine st 4 [] (k_ite H (fun c61 H => ?_) (fun c61 H => ?_))
      ·obtain ⟨hk, bk⟩ := hs.call tk0 (.c (xI d3) (.c (gK d10) .n))
       refine st 3 [] (k_call H (fun _ m => api_Code.calls m hk) ?_)
       rintro t62 _ h H ⟨I, _, ⟨rfl, rfl⟩, hk⟩
       replace hs := bk hk ct0 rfl
       refine st 4 [] ?_
       refine k_retQ ?_
       obtain rfl := Option.some.inj H
       exact ⟨_, by kernel_rfl, I, _, ⟨rfl, rfl⟩, hs.pk .n⟩
      ·refine st 8 [] ?_
       refine k_retQ ?_
       obtain rfl := Option.some.inj H
       exact ⟨_, by kernel_rfl, I, _, ⟨rfl, rfl⟩, hs.pk .n⟩
     ·refine st 13 [] ?_
      refine k_retQ ?_
      obtain rfl := Option.some.inj H
      exact ⟨_, by kernel_rfl, I, _, ⟨rfl, rfl⟩, hs.pk .n⟩
    ·refine st 22 [] ?_
     refine k_retQ ?_
     obtain rfl := Option.some.inj H
     exact ⟨_, by kernel_rfl, I, _, ⟨rfl, rfl⟩, hs.pk .n⟩
   ·refine st 30 [] ?_
    refine k_retQ ?_
    obtain rfl := Option.some.inj H
    exact ⟨_, by kernel_rfl, I, _, ⟨rfl, rfl⟩, hs.pk .n⟩
  ·refine st 36 [] ?_
   refine k_retQ ?_
   obtain rfl := Option.some.inj H
   exact ⟨_, by kernel_rfl, I, _, ⟨rfl, rfl⟩, hs.pk .n⟩
 ·rw [if_neg c45] at H
  refine st 46 [] ?_
  refine k_retQ ?_
  obtain rfl := Option.some.inj H
  exact ⟨_, by kernel_rfl, I, _, ⟨rfl, rfl⟩, hs.pk .n⟩

/-! shutter/shutterref10.Sized -/
def shutterref10_Sized.m (x0 : Int) (x1 : Int) : Option Bool :=
  (if x0 ≥ 1 then (if x1 ≥ 1 then (if x0 ≤ 16383 then (if x1 ≤ 16383 then (some (decide ((w64 (x0 * x1)) ≤ 16383))) else (some false)) else (some false)) else (some false)) else (some false))

theorem shutterref10_Sized.calls {x0 : Int} {x1 : Int} {h : Heap} {r : Bool} (H : shutterref10_Sized.m x0 x1 = some r)   :
    Ret Tryz.prog 69 #[.int .i64 x0, .int .i64 x1] h (fun v h' => .bool r = v ∧ h' = h) := by
 unfold shutterref10_Sized.m at H
 refine fn_of (args := [.int .i64 x0, .int .i64 x1]) (rs := [.tmp 4]) (N := 25) Tryz.func69 rfl rfl rfl rfl ?_
 refine st 7 [] (k_ite H (fun c21 H => ?_) (fun c21 H => ?_))
 ·refine st 2 [] (k_ite H (fun c22 H => ?_) (fun c22 H => ?_))
  ·refine st 3 [] (k_ite H (fun c23 H => ?_) (fun c23 H => ?_))
   ·refine st 3 [] (k_ite H (fun c24 H => ?_) (fun c24 H => ?_))
    ·refine st 9 [] ?_
     refine k_retQ ?_
     obtain rfl := Option.some.inj H
     exact ⟨_, by kernel_rfl, rfl, rfl⟩
    ·refine st 9 [] ?_
     refine k_retQ ?_
     obtain rfl := Option.some.inj H
     exact ⟨_, by kernel_rfl, rfl, rfl⟩
   ·refine st 13 [] ?_
    refine k_retQ ?_
    obtain rfl := Option.some.inj H
    exact ⟨_, by kernel_rfl, rfl, rfl⟩
  ·refine st 17 [] ?_
   refine k_retQ ?_
   obtain rfl := Option.some.inj H
   exact ⟨_, by kernel_rfl, rfl, rfl⟩
 ·refine st 20 [] ?_
  refine k_retQ ?_
  obtain rfl := Option.some.inj H
  exact ⟨_, by kernel_rfl, rfl, rfl⟩

/-! shutter/shutterref05.Char -/
def shutterref05_Char.m (x0 : Int) : Option Bool :=
  (if x0 = 0 then (some true) else (if x0 = 28 then (some true) else (if x0 = 30 then (some true) else (if x0 ≥ 64 then (some (decide (x0 ≤ 254))) else (some false)))))

theorem shutterref05_Char.calls {x0 : Int} {h : Heap} {r : Bool} (H : shutterref05_Char.m x0 = some r)   :
    Ret Tryz.prog 76 #[.int .u8 x0] h (fun v h' => .bool r = v ∧ h' = h) := by
 unfold shutterref05_Char.m at H
 refine fn_of (args := [.int .u8 x0]) (rs := [.tmp 2]) (N := 21) Tryz.func76 rfl rfl rfl rfl ?_
 refine st 7 [] (k_ite H (fun c21 H => ?_) (fun c21 H => ?_))
 ·refine st 18 [] ?_
  refine k_retQ ?_
  obtain rfl := Option.some.inj H
  exact ⟨_, by kernel_rfl, rfl, rfl⟩
 ·refine st 2 [] (k_ite H (fun c22 H => ?_) (fun c22 H => ?_))
  ·refine st 15 [] ?_
   refine k_retQ ?_
   obtain rfl := Option.some.inj H
   exact ⟨_, by kernel_rfl, rfl, rfl⟩
  ·refine st 3 [] (k_ite H (fun c23 H => ?_) (fun c23 H => ?_))
   ·refine st 11 [] ?_
    refine k_retQ ?_
    obtain rfl := Option.some.inj H
    exact ⟨_, by kernel_rfl, rfl, rfl⟩
   ·refine st 3 [] (k_ite H (fun c24 H => ?_) (fun c24 H => ?_))
    ·refine st 7 [] ?_
     refine k_retQ ?_
     obtain rfl := Option.some.inj H
     exact ⟨_, by kernel_rfl, rfl, rfl⟩
    ·refine st 7 [] ?_
     refine k_retQ ?_
     obtain rfl := Option.some.inj H
     exact ⟨_, by kernel_rfl, rfl, rfl⟩

/-! shutter/shutterref10.Cell -/
def shutterref10_Cell.m (x0 : api_Cell) : Option Bool :=
  (letJ (α := Bool → Option Bool) (fun (x23 : Bool) => (bif x23 then (if x0.Char = 0 then (if x0.Attr.Show ≥ 0 then (some (decide (x0.Attr.Show ≤ 3))) else (some false)) else (some false)) else (bif ((x0.Attr.Protected == false) && ((x0.Attr.Numeric == false) && ((x0.Attr.Show == 0) && ((x0.Attr.Modified == false) && true)))) then ((shutterref05_Char.m x0.Char).bind fun t28 => (some t28)) else (some false)))) fun (j24 : Bool → Option Bool) => (bif x0.Field then (j24 true) else (j24 false)))

theorem shutterref10_Cell.calls {B I : Gh} {h : Heap} {x0 : api_Cell} {r : Bool} (H : shutterref10_Cell.m x0 = some r)  :
    Fc Tryz.prog 70 #[.agg #[.bool x0.Field, .bool x0.Attr.Protected, .bool x0.Attr.Numeric, .int .i64 x0.Attr.Show, .bool x0.Attr.Modified, .int .u8 x0.Char]] [] B I h (fun v L => v = .bool r ∧ L = []) := by
 refine fc_of fun E hs => ?_
 unfold shutterref10_Cell.m at H
 refine fn_of (args := [.agg #[.bool x0.Field, .bool x0.Attr.Protected, .bool x0.Attr.Numeric, .int .i64 x0.Attr.Show, .bool x0.Attr.Modified, .int .u8 x0.Char]]) (rs := [.tmp 2]) (N := 29) Tryz.func70 rfl rfl rfl rfl ?_
 refine st 2 [] (k_op (nB hs [.bool x0.Field, .bool x0.Attr.Protected, .bool x0.Attr.Numeric, .int .i64 x0.Attr.Show, .bool x0.Attr.Modified, .int .u8 x0.Char] ?_))
 intro b21 h hs
 refine st 4 [] ?_
 obtain ⟨j24, e29, H⟩ := letJ_some H
 refine k_join (fun ρ h => ∃ (x23 : Bool) (I : Gh), j24 x23 = some r ∧ Fits [(1, .pointer (some ⟨b21, 0, none⟩)), (4, .bool x23)] ρ ∧ St E [rB b21 [.bool x0.Field, .bool x0.Attr.Protected, .bool x0.Attr.Numeric, .int .i64 x0.Attr.Show, .bool x0.Attr.Modified, .int .u8 x0.Char] 57] I h) ?_ ?_
 ·refine st 2 [] (k_op (lB (hs.bl d0) 0 rfl ?_))
  refine k_spl H (fun c22 H => ?_) (fun c22 H => ?_)
  ·refine st 1 [] ?_
   exact k_end ⟨true, I, H, ⟨by kernel_rfl, by kernel_rfl, trivial⟩, hs.pk (.c d0 .n)⟩
  ·refine st 1 [] ?_
   exact k_end ⟨false, I, H, ⟨by kernel_rfl, by kernel_rfl, trivial⟩, hs.pk (.c d0 .n)⟩
 ·clear H
  rintro ρ h ⟨x23, I, H, hf, hs⟩
  refine k_fits _ hf ?_ rfl
  subst e29
  try dsimp only at H
  cases x23
  ·rw [cond_false] at H
   refine st 5 [false] (k_op (lN (hs.bl d0) 1 4 ?_))
   rcases bool_or ((x0.Attr.Protected == false) && ((x0.Attr.Numeric == false) && ((x0.Attr.Show == 0) && ((x0.Attr.Modified == false) && true)))) with c27 | c27
   ·replace H := bif_f c27 H
    refine st 1 [] (k_op (owp_run (.bool false) (run_bool (run_eqAgg (xs := #[.bool x0.Attr.Protected, .bool x0.Attr.Numeric, .int .i64 x0.Attr.Show, .bool x0.Attr.Modified]) (ys := #[.bool false, .bool false, .int .i64 0, .bool false]) (by kernel_rfl) (by kernel_rfl) (by kernel_rfl) (eqB_run (b := ((x0.Attr.Protected == false) && ((x0.Attr.Numeric == false) && ((x0.Attr.Show == 0) && ((x0.Attr.Modified == false) && true))))) (by kernel_rfl))) c27) ?_))
    refine st 7 [] ?_
    refine k_retQ ?_
    obtain rfl := Option.some.inj H
    exact ⟨_, by kernel_rfl, I, _, ⟨rfl, rfl⟩, hs.pk .n⟩
   ·replace H := bif_t c27 H
    refine st 1 [] (k_op (owp_run (.bool true) (run_bool (run_eqAgg (xs := #[.bool x0.Attr.Protected, .bool x0.Attr.Numeric, .int .i64 x0.Attr.Show, .bool x0.Attr.Modified]) (ys := #[.bool false, .bool false, .int .i64 0, .bool false]) (by kernel_rfl) (by kernel_rfl) (by kernel_rfl) (eqB_run (b := ((x0.Attr.Protected == false) && ((x0.Attr.Numeric == false) && ((x0.Attr.Show == 0) && ((x0.Attr.Modified == false) && true))))) (by kernel_rfl))) c27) ?_))
    refine st 2 [] (k_op (lB (hs.bl d0) 5 rfl ?_))
    refine k_call H (fun _ m => shutterref05_Char.calls m) ?_
    rintro t28 _ _ H ⟨rfl, rfl⟩
    refine st 3 [] ?_
    refine k_retQ ?_
    obtain rfl := Option.some.inj H
    exact ⟨_, by kernel_rfl, I, _, ⟨rfl, rfl⟩, hs.pk .n⟩
  ·rw [cond_true] at H
   refine st 4 [true] (k_op (lB (hs.bl d0) 5 rfl ?_))
   refine k_ite H (fun c25 H => ?_) (fun c25 H => ?_)
   ·refine st 3 [] (k_op (lB (hs.bl d0) 3 rfl ?_))
    refine k_ite H (fun c26 H => ?_) (fun c26 H => ?_)
    ·refine st 4 [] (k_op (lB (hs.bl d0) 3 rfl ?_))
     refine st 4 [] ?_
     refine k_retQ ?_
     obtain rfl := Option.some.inj H
     exact ⟨_, by kernel_rfl, I, _, ⟨rfl, rfl⟩, hs.pk .n⟩
    ·refine st 9 [] ?_
     refine k_retQ ?_
     obtain rfl := Option.some.inj H
     exact ⟨_, by kernel_rfl, I, _, ⟨rfl, rfl⟩, hs.pk .n⟩
   ·refine st 14 [] ?_
    refine k_retQ ?_
    obtain rfl := Option.some.inj H
    exact ⟨_, by kernel_rfl, I, _, ⟨rfl, rfl⟩, hs.pk .n⟩

/-! shutter/shutterref10.Right -/
def shutterref10_Right.l1.m (K : Nat) (x0 : api_Screen) : Nat → Int → Option (Bool ⊕ (Unit))
  | 0, _ => none
  | k + 1, x30 => (if x30 < (x0.Cells.length : Int) then (if 0 ≤ x30 then ((shutterref10_Cell.m (⟨(at_ x0.Cells x30).Field, ((at_ x0.Cells x30).Attr), (at_ x0.Cells x30).Char⟩ : api_Cell)).bind fun t39 => bif t39 then (shutterref10_Right.l1.m K x0 k (w64 (x30 + 1))) else (some (Sum.inl false))) else none) else (some (Sum.inr ())))
def shutterref10_Right.m (K : Nat) (x0 : api_Screen) : Option Bool :=
  ((shutterref10_Sized.m x0.Rows x0.Cols).bind fun t26 => bif t26 then (if (x0.Cells.length : Int) = (w64 (x0.Rows * x0.Cols)) then (if x0.Cursor < 0 then (some false) else (if x0.Cursor ≥ (x0.Cells.length : Int) then (some false) else ((shutterref10_Right.l1.m K x0 K 0).bind fun s31 => match s31 with | .inl q => (some q) | .inr _ => (some true)))) else (some false)) else (some false))

theorem shutterref10_Right.calls {B I : Gh} {h : Heap} {K : Nat} {x0 : api_Screen} {a21 : Option Addr} {p22 : Nat} {n23 : Nat} {r : Bool} (H : shutterref10_Right.m K x0 = some r)  :
    Fc Tryz.prog 26 #[.agg #[.int .i64 x0.Rows, .int .i64 x0.Cols, .slice a21 n23 p22, .int .i64 x0.Cursor, .bool x0.Locked, .bool x0.Insert]] [rR t_api_Cell .b a21 p22 n23 x0.Cells] B I h (fun v L => v = .bool r ∧ L = []) := by
 refine fc_of fun E hs => ?_
 unfold shutterref10_Right.m at H
 obtain rfl := hs.nR d0
 refine fn_of (args := [.agg #[.int .i64 x0.Rows, .int .i64 x0.Cols, .slice a21 x0.Cells.length p22, .int .i64 x0.Cursor, .bool x0.Locked, .bool x0.Insert]]) (rs := [.tmp 2]) (N := 48) Tryz.func26 rfl rfl rfl rfl ?_
 refine st 2 [] (k_op (nB hs [.int .i64 x0.Rows, .int .i64 x0.Cols, .slice a21 x0.Cells.length p22, .int .i64 x0.Cursor, .bool x0.Locked, .bool x0.Insert] ?_))
 intro b25 h hs
 refine st 6 [] (k_op (lB (hs.bl d0) 0 rfl ?_))
 refine st 1 [] (k_op (lB (hs.bl d0) 1 rfl ?_))
 refine k_call H (fun _ m => shutterref10_Sized.calls m) ?_
 rintro t26 _ _ H ⟨rfl, rfl⟩
 cases t26
 ·rw [cond_false] at H
  refine st 31 [true] ?_
  refine k_retQ ?_
  obtain rfl := Option.some.inj H
  exact ⟨_, by kernel_rfl, I, _, ⟨rfl, rfl⟩, hs.pk .n⟩
 ·rw [cond_true] at H
  refine st 3 [] (k_op (lB (hs.bl d0) 2 rfl ?_))
  refine st 2 [] (k_op (lB (hs.bl d0) 0 rfl ?_))
  refine st 1 [] (k_op (lB (hs.bl d0) 1 rfl ?_))
  refine st 1 [] (k_iteN H (fun c27 H => ?_) (fun c27 H => ?_))
  ·refine st 3 [] (k_op (lB (hs.bl d0) 3 rfl ?_))
   refine k_ite H (fun c28 H => ?_) (fun c28 H => ?_)
   ·refine st 15 [true] ?_
    refine k_retQ ?_
    obtain rfl := Option.some.inj H
    exact ⟨_, by kernel_rfl, I, _, ⟨rfl, rfl⟩, hs.pk .n⟩
   ·refine st 3 [] (k_op (lB (hs.bl d0) 3 rfl ?_))
    refine st 1 [] (k_op (lB (hs.bl d0) 2 rfl ?_))
    refine st 1 [] (k_ite H (fun c29 H => ?_) (fun c29 H => ?_))
    ·refine st 7 [true] ?_
     refine k_retQ ?_
     obtain rfl := Option.some.inj H
     exact ⟨_, by kernel_rfl, I, _, ⟨rfl, rfl⟩, hs.pk .n⟩
    ·refine st 10 [false] ?_
     obtain ⟨s31, m33, HR32⟩ := bind_some H
     refine k_loop 0 (fun k' ρ h => ∃ (x30 : Int) (I : Gh), shutterref10_Right.l1.m K x0 k' x30 = some s31 ∧ Fits [(1, .pointer (some ⟨b25, 0, none⟩)), (3, .int .i64 x30)] ρ ∧ St E [rR t_api_Cell .b a21 p22 x0.Cells.length x0.Cells, rB b25 [.int .i64 x0.Rows, .int .i64 x0.Cols, .slice a21 x0.Cells.length p22, .int .i64 x0.Cursor, .bool x0.Locked, .bool x0.Insert] 24] I h) (fun ρ h => ∃ (I : Gh), Sum.inr () = s31 ∧ Fits [] ρ ∧ St E [] I h) K ⟨0, I, m33, ⟨by kernel_rfl, by kernel_rfl, trivial⟩, hs.pk (.c d1 (.c d0 .n))⟩ ?_ rfl ?_
     ·clear m33 H
      rintro k' ρ h ⟨x30, I, H, hf, hs⟩
      cases k' with
      | zero => cases H
      | succ k =>
       rw [shutterref10_Right.l1.m] at H
       refine k_fits _ hf ?_ rfl
       refine st 5 [] (k_op (lB (hs.bl d1) 2 rfl ?_))
       refine st 1 [] (k_ite H (fun c34 H => ?_) (fun c34 H => ?_))
       ·refine st 8 [true] (k_op (lB (hs.bl d1) 2 rfl ?_))
        obtain ⟨c35, H⟩ := guard_pos H
        refine st 1 [] (k_val (elemPtr a21 (x30.toNat * 6)) (pI (e := 57) (ik := .i64) (hs.sR d0) c35 c34) ?_)
        obtain ⟨y37, g36, q38⟩ := (hs.sR d0).toSl.seg c35 c34
        obtain rfl := t_api_Cell.open_ q38
        refine k_op (lG g36 ?_)
        obtain ⟨hk, bk⟩ := hs.call tk0 .n
        refine k_call H (fun _ m => shutterref10_Cell.calls m hk) ?_
        rintro t39 _ h H ⟨I, _, ⟨rfl, rfl⟩, hk⟩
        replace hs := bk hk ct0 rfl
        cases t39
        ·rw [cond_false] at H
         refine st 7 [true] ?_
         refine k_retQ (krL ?_)
         obtain rfl := Option.some.inj H
         obtain rfl := Option.some.inj HR32
         exact ⟨_, by kernel_rfl, I, _, ⟨rfl, rfl⟩, hs.pk .n⟩
        ·rw [cond_true] at H
         refine st 10 [false] ?_
         exact k_endL ⟨k, Nat.lt_succ_self _, (w64 (x30 + 1)), I, H, ⟨by kernel_rfl, by kernel_rfl, trivial⟩, hs.pk (.c d0 (.c d0 .n))⟩
       ·refine st 2 [false] ?_
        refine k_out rfl ?_
        obtain rfl := Option.some.inj H
        exact xE ⟨I, rfl, trivial, hs.pk .n⟩
     ·rintro ρ h ⟨I, rfl, hf, hs⟩
      have H := HR32
      try dsimp only at H
      refine k_fits _ hf ?_ rfl
      refine st 4 [] ?_
      refine k_retQ ?_
      obtain rfl := Option.some.inj H
      exact ⟨_, by kernel_rfl, I, _, ⟨rfl, rfl⟩, hs.pk .n⟩
  ·refine st 20 [true] ?_
   refine k_retQ ?_
   obtain rfl := Option.some.inj H
   exact ⟨_, by kernel_rfl, I, _, ⟨rfl, rfl⟩, hs.pk .n⟩

/-! shutter/shutterref10.Few -/
def shutterref10_Few.m (K : Nat) (x0 : api_Screen) : Option Bool :=
  (if (x0.Cells.length : Int) ≤ 200 then ((shutterref10_Right.m K x0).bind fun t27 => (some t27)) else (some false))

theorem shutterref10_Few.calls {B I : Gh} {h : Heap} {K : Nat} {x0 : api_Screen} {a21 : Option Addr} {p22 : Nat} {n23 : Nat} {r : Bool} (H : shutterref10_Few.m K x0 = some r)  :
    Fc Tryz.prog 7 #[.agg #[.int .i64 x0.Rows, .int .i64 x0.Cols, .slice a21 n23 p22, .int .i64 x0.Cursor, .bool x0.Locked, .bool x0.Insert]] [rR t_api_Cell .b a21 p22 n23 x0.Cells] B I h (fun v L => v = .bool r ∧ L = []) := by
 refine fc_of fun E hs => ?_
 unfold shutterref10_Few.m at H
 obtain rfl := hs.nR d0
 refine fn_of (args := [.agg #[.int .i64 x0.Rows, .int .i64 x0.Cols, .slice a21 x0.Cells.length p22, .int .i64 x0.Cursor, .bool x0.Locked, .bool x0.Insert]]) (rs := [.tmp 2]) (N := 11) Tryz.func7 rfl rfl rfl rfl ?_
 refine st 2 [] (k_op (nB hs [.int .i64 x0.Rows, .int .i64 x0.Cols, .slice a21 x0.Cells.length p22, .int .i64 x0.Cursor, .bool x0.Locked, .bool x0.Insert] ?_))
 intro b25 h hs
 refine st 5 [] (k_op (lB (hs.bl d0) 2 rfl ?_))
 refine st 1 [] (k_ite H (fun c26 H => ?_) (fun c26 H => ?_))
 ·refine st 1 [] (k_op (lN (hs.bl d0) 0 6 ?_))
  obtain ⟨hk, bk⟩ := hs.call tk0 (.c (qB d1) .n)
  refine k_call H (fun _ m => shutterref10_Right.calls m hk) ?_
  rintro t27 _ h H ⟨I, _, ⟨rfl, rfl⟩, hk⟩
  replace hs := bk hk ct0 rfl
  refine st 3 [] ?_
  refine k_retQ ?_
  obtain rfl := Option.some.inj H
  exact ⟨_, by kernel_rfl, I, _, ⟨rfl, rfl⟩, hs.pk .n⟩
 ·refine st 6 [] ?_
  refine k_retQ ?_
  obtain rfl := Option.some.inj H
  exact ⟨_, by kernel_rfl, I, _, ⟨rfl, rfl⟩, hs.pk .n⟩

/-! shutter/input.spot -/
def input_spot.m (x0 : Int) (x1 : GoErr) : Option GoErr :=
  (some (GoErr.spot x0 x1))

theorem input_spot.calls {B I : Gh} {h : Heap} {x0 : Int} {x1 : GoErr} {v21 : Value} {r : GoErr} (H : input_spot.m x0 x1 = some r)  :
    Fc Tryz.prog 48 #[.int .i64 x0, v21] [rE .i v21 x1] B I h (fun v L => ∃ (v29 : Value), v = v29 ∧ L = [rE .i v29 r]) := by
 refine fc_of fun E hs => ?_
 unfold input_spot.m at H
 refine fn_of (args := [.int .i64 x0, v21]) (rs := [.tmp 4]) (N := 10) Tryz.func48 rfl rfl rfl rfl ?_
 rcases (hs.er d0).cases with ⟨c23, rfl⟩ | ⟨c23, t24, u25, rfl⟩
 ·refine st 9 [] (k_op (nB hs [.int .i64 x0, .nilIface] ?_))
  intro b26 h hs
  have q27 := (hs.er d1)
  obtain ⟨I, hs⟩ := hs.fS q27
  refine st 3 [] ?_
  refine k_retQ ?_
  obtain rfl := Option.some.inj H
  exact ⟨_, by kernel_rfl, I, _, ⟨((.iface 105 (.pointer (some ⟨b26, 0, none⟩)))), rfl, rfl⟩, hs.pk (.c d0 .n)⟩
 ·refine st 9 [] (k_op (nB hs [.int .i64 x0, (.iface t24 u25)] ?_))
  intro b26 h hs
  have q27 := (hs.er d1)
  obtain ⟨I, hs⟩ := hs.fS q27
  refine st 3 [] ?_
  refine k_retQ ?_
  obtain rfl := Option.some.inj H
  exact ⟨_, by kernel_rfl, I, _, ⟨((.iface 105 (.pointer (some ⟨b26, 0, none⟩)))), rfl, rfl⟩, hs.pk (.c d0 .n)⟩

/-! shutter/attr.Char -/
def attr_Char.m (x0 : Int) : Option Bool :=
  (if x0 = 0 then (some true) else (if x0 = 28 then (some true) else (if x0 = 30 then (some true) else (if x0 ≥ 64 then (some (x0 != 255)) else (some false)))))

theorem attr_Char.calls {x0 : Int} {h : Heap} {r : Bool} (H : attr_Char.m x0 = some r)   :
    Ret Tryz.prog 97 #[.int .u8 x0] h (fun v h' => .bool r = v ∧ h' = h) := by
 unfold attr_Char.m at H
 refine fn_of (args := [.int .u8 x0]) (rs := [.tmp 2]) (N := 15) Tryz.func97 rfl rfl rfl rfl ?_
 refine st 17 [] (k_ite H (fun c21 H => ?_) (fun c21 H => ?_))
 ·refine st 10 [true] ?_
  refine k_retQ ?_
  obtain rfl := Option.some.inj H
  exact ⟨_, by kernel_rfl, rfl, rfl⟩
 ·refine st 7 [false] (k_ite H (fun c22 H => ?_) (fun c22 H => ?_))
  ·refine st 11 [true, true] ?_
   refine k_retQ ?_
   obtain rfl := Option.some.inj H
   exact ⟨_, by kernel_rfl, rfl, rfl⟩
  ·refine st 4 [false] (k_ite H (fun c23 H => ?_) (fun c23 H => ?_))
   ·refine st 9 [true] ?_
    refine k_retQ ?_
    obtain rfl := Option.some.inj H
    exact ⟨_, by kernel_rfl, rfl, rfl⟩
   ·refine st 8 [false] (k_ite H (fun c24 H => ?_) (fun c24 H => ?_))
    ·refine st 6 [] ?_
     refine k_retQ ?_
     obtain rfl := Option.some.inj H
     exact ⟨_, by kernel_rfl, rfl, rfl⟩
    ·refine st 6 [] ?_
     refine k_retQ ?_
     obtain rfl := Option.some.inj H
     exact ⟨_, by kernel_rfl, rfl, rfl⟩

/-! shutter/input.letter -/
def input_letter.m (x0 : Int) : Option Bool :=
  (if x0 = 0 then (some false) else ((attr_Char.m x0).bind fun t22 => (some t22)))

theorem input_letter.calls {x0 : Int} {h : Heap} {r : Bool} (H : input_letter.m x0 = some r)   :
    Ret Tryz.prog 92 #[.int .u8 x0] h (fun v h' => .bool r = v ∧ h' = h) := by
 unfold input_letter.m at H
 refine fn_of (args := [.int .u8 x0]) (rs := [.tmp 2]) (N := 9) Tryz.func92 rfl rfl rfl rfl ?_
 refine st 7 [] (k_iteN H (fun c21 H => ?_) (fun c21 H => ?_))
 ·refine st 6 [] ?_
  refine k_retQ ?_
  obtain rfl := Option.some.inj H
  exact ⟨_, by kernel_rfl, rfl, rfl⟩
 ·refine st 2 [] (k_call H (fun _ m => attr_Char.calls m) ?_)
  rintro t22 _ _ H ⟨rfl, rfl⟩
  refine st 3 [] ?_
  refine k_retQ ?_
  obtain rfl := Option.some.inj H
  exact ⟨_, by kernel_rfl, rfl, rfl⟩

/-! shutter/input.strange -/
def input_strange.m (x0 : Int) : Option Bool :=
  ((input_letter.m x0).bind fun t21 => (some (!t21)))

theorem input_strange.calls {x0 : Int} {h : Heap} {r : Bool} (H : input_strange.m x0 = some r)   :
    Ret Tryz.prog 95 #[.int .u8 x0] h (fun v h' => .bool r = v ∧ h' = h) := by
 unfold input_strange.m at H
 refine fn_of (args := [.int .u8 x0]) (rs := [.tmp 2]) (N := 6) Tryz.func95 rfl rfl rfl rfl ?_
 refine st 7 [] (k_call H (fun _ m => input_letter.calls m) ?_)
 rintro t21 _ _ H ⟨rfl, rfl⟩
 refine st 3 [] ?_
 refine k_retQ ?_
 obtain rfl := Option.some.inj H
 exact ⟨_, by kernel_rfl, rfl, rfl⟩

/-! slices.IndexFunc[[]byte,byte] -/
def slices_IndexFunc_bytes__input_strange.l1.m (K : Nat) (x0 : (List Int)) : Nat → Int → Option (Int ⊕ (Unit))
  | 0, _ => none
  | k + 1, x26 => (letJ (α := Bool → Option (Int ⊕ (Unit))) (fun (x31 : Bool) => (bif x31 then (if 0 ≤ x26 then (if x26 < (x0.length : Int) then ((input_strange.m (at_ x0 x26)).bind fun t35 => bif t35 then (some (Sum.inl x26)) else (slices_IndexFunc_bytes__input_strange.l1.m K x0 k (w64 (x26 + 1)))) else none) else none) else (some (Sum.inr ())))) fun (j32 : Bool → Option (Int ⊕ (Unit))) => (if x26 < (x0.length : Int) then (j32 true) else (j32 false)))
def slices_IndexFunc_bytes__input_strange.m (K : Nat) (x0 : (List Int)) : Option Int :=
  ((slices_IndexFunc_bytes__input_strange.l1.m K x0 K 0).bind fun s27 => match s27 with | .inl q => (some q) | .inr _ => (some (-1)))

theorem slices_IndexFunc_bytes__input_strange.calls {G : Gh} {K : Nat} {x0 : (List Int)} {a21 : Option Addr} {p22 : Nat} {n23 : Nat} {h : Heap} {r : Int} (H : slices_IndexFunc_bytes__input_strange.m K x0 = some r)  (s25 : Sn (tInt .u8) G h a21 p22 n23 x0) :
    Ret Tryz.prog 126 #[.slice a21 n23 p22, .func (.func 95) #[] #[]] h (fun v h' => .int .i64 r = v ∧ h' = h) := by
 unfold slices_IndexFunc_bytes__input_strange.m at H
 obtain rfl := s25.len.symm
 refine fn_of (args := [.slice a21 x0.length p22, .func (.func 95) #[] #[]]) (rs := [.tmp 4]) (N := 19) Tryz.func126 rfl rfl rfl rfl ?_
 refine st 12 [] ?_
 obtain ⟨s27, m29, HR28⟩ := bind_some H
 refine k_loop 0 (fun k' ρ h1 => ∃ (x26 : Int), slices_IndexFunc_bytes__input_strange.l1.m K x0 k' x26 = some s27 ∧ Fits [(0, .slice a21 x0.length p22), (1, .func (.func 95) #[] #[]), (7, .int .i64 (x0.length : Int)), (8, .int .i64 x26)] ρ ∧ h = h1) (fun ρ h1 => Sum.inr () = s27 ∧ Fits [] ρ ∧ h = h1) K ⟨0, m29, ⟨by kernel_rfl, by kernel_rfl, by kernel_rfl, by kernel_rfl, trivial⟩, rfl⟩ ?_ rfl ?_
 ·clear m29 H
  rintro k' ρ h1 ⟨x26, H, hf, rfl⟩
  cases k' with
  | zero => cases H
  | succ k =>
   rw [slices_IndexFunc_bytes__input_strange.l1.m] at H
   refine k_fits _ hf ?_ rfl
   refine st 1 [] ?_
   obtain ⟨j32, e36, H⟩ := letJ_some H
   refine k_join (fun ρ h1 => ∃ (x31 : Bool), j32 x31 = some s27 ∧ Fits [(0, .slice a21 x0.length p22), (1, .func (.func 95) #[] #[]), (7, .int .i64 (x0.length : Int)), (8, .int .i64 x26), (9, .bool x31)] ρ ∧ h = h1) ?_ ?_
   ·refine st 1 [] (k_ite H (fun c30 H => ?_) (fun c30 H => ?_))
    ·refine st 1 [] ?_
     exact k_end ⟨true, H, ⟨by kernel_rfl, by kernel_rfl, by kernel_rfl, by kernel_rfl, by kernel_rfl, trivial⟩, rfl⟩
    ·refine st 1 [] ?_
     exact k_end ⟨false, H, ⟨by kernel_rfl, by kernel_rfl, by kernel_rfl, by kernel_rfl, by kernel_rfl, trivial⟩, rfl⟩
   ·clear H
    rintro ρ h1 ⟨x31, H, hf, rfl⟩
    refine k_fits _ hf ?_ rfl
    subst e36
    try dsimp only at H
    cases x31
    ·rw [cond_false] at H
     refine st 2 [false] ?_
     refine k_out rfl ?_
     obtain rfl := Option.some.inj H
     exact xE ⟨rfl, trivial, rfl⟩
    ·rw [cond_true] at H
     obtain ⟨c33, H⟩ := guard_pos H
     obtain ⟨c34, H⟩ := guard_pos H
     refine st 15 [true] (k_val (elemPtr a21 (x26.toNat * 1)) (pI (e := 5) (ik := .i64) s25 c33 c34) ?_)
     refine k_op (lC (s25.cell1 c33 c34) ?_)
     refine k_call H (fun _ m => input_strange.calls m) ?_
     rintro t35 _ _ H ⟨rfl, rfl⟩
     cases t35
     ·rw [cond_false] at H
      refine st 8 [false] ?_
      exact k_endL ⟨k, Nat.lt_succ_self _, (w64 (x26 + 1)), H, ⟨by kernel_rfl, by kernel_rfl, by kernel_rfl, by kernel_rfl, trivial⟩, rfl⟩
     ·rw [cond_true] at H
      refine st 7 [true] ?_
      refine k_retQ (krL ?_)
      obtain rfl := Option.some.inj H
      obtain rfl := Option.some.inj HR28
      exact ⟨_, by kernel_rfl, rfl, rfl⟩
 ·rintro ρ h1 ⟨rfl, hf, rfl⟩
  have H := HR28
  try dsimp only at H
  refine k_fits _ hf ?_ rfl
  refine st 4 [] ?_
  refine k_retQ ?_
  obtain rfl := Option.some.inj H
  exact ⟨_, by kernel_rfl, rfl, rfl⟩

/-! slices.ContainsFunc[[]byte,byte] -/
def slices_ContainsFunc_bytes__input_strange.m (K : Nat) (x0 : (List Int)) : Option Bool :=
  ((slices_IndexFunc_bytes__input_strange.m K x0).bind fun t25 => (some (decide (t25 ≥ 0))))

theorem slices_ContainsFunc_bytes__input_strange.calls {B I : Gh} {h : Heap} {K : Nat} {x0 : (List Int)} {a21 : Option Addr} {p22 : Nat} {n23 : Nat} {r : Bool} (H : slices_ContainsFunc_bytes__input_strange.m K x0 = some r)  :
    Fc Tryz.prog 94 #[.slice a21 n23 p22, .func (.func 95) #[] #[]] [rR (tInt .u8) .b a21 p22 n23 x0] B I h (fun v L => v = .bool r ∧ L = []) := by
 refine fc_of fun E hs => ?_
 unfold slices_ContainsFunc_bytes__input_strange.m at H
 obtain rfl := hs.nR d0
 refine fn_of (args := [.slice a21 x0.length p22, .func (.func 95) #[] #[]]) (rs := [.tmp 4]) (N := 9) Tryz.func94 rfl rfl rfl rfl ?_
 refine st 8 [] (k_call H (fun _ m => slices_IndexFunc_bytes__input_strange.calls m (hs.sR d0)) ?_)
 rintro t25 _ _ H ⟨rfl, rfl⟩
 refine st 3 [] ?_
 refine k_retQ ?_
 obtain rfl := Option.some.inj H
 exact ⟨_, by kernel_rfl, I, _, ⟨rfl, rfl⟩, hs.pk .n⟩

/-! shutter/input.field -/
def input_field.m (K : Nat) (x0 : api_Entry) (x1 : Bool) (x2 : Int) : Option GoErr :=
  (letJ (α := Bool → Option GoErr) (fun (x28 : Bool) => (letJ (α := Bool → Option GoErr) (fun (x33 : Bool) => (bif x33 then (some (GoErr.no 4)) else (letJ (α := Bool → Option GoErr) (fun (x36 : Bool) => (bif x36 then (some (GoErr.no 3)) else (bif x28 then (if (x0.Text.length : Int) = 0 then (some (GoErr.no 1)) else (some GoErr.nil)) else (some GoErr.nil)))) fun (j37 : Bool → Option GoErr) => ((slices_ContainsFunc_bytes__input_strange.m K x0.Text).bind fun t35 => bif t35 then (j37 true) else (j37 false))))) fun (j34 : Bool → Option GoErr) => (bif x28 then (j34 false) else (if x0.Addr < 0 then (j34 true) else (if x0.Addr ≥ x2 then (j34 true) else (j34 false)))))) fun (j29 : Bool → Option GoErr) => (bif x1 then (if x0.Addr = (-1) then (j29 true) else (j29 false)) else (j29 false)))

theorem input_field.calls {B I : Gh} {h : Heap} {K : Nat} {x0 : api_Entry} {x1 : Bool} {x2 : Int} {a21 : Option Addr} {p22 : Nat} {n23 : Nat} {r : GoErr} (H : input_field.m K x0 x1 x2 = some r)  :
    Fc Tryz.prog 59 #[.agg #[.int .i64 x0.Addr, .slice a21 n23 p22], .bool x1, .int .i64 x2] [rR (tInt .u8) .b a21 p22 n23 x0.Text] B I h (fun v L => ∃ (v43 : Value), v = v43 ∧ L = [rE .i v43 r]) := by
 refine fc_of fun E hs => ?_
 unfold input_field.m at H
 obtain rfl := hs.nR d0
 refine fn_of (args := [.agg #[.int .i64 x0.Addr, .slice a21 x0.Text.length p22], .bool x1, .int .i64 x2]) (rs := [.tmp 6]) (N := 43) Tryz.func59 rfl rfl rfl rfl ?_
 refine st 2 [] (k_op (nB hs [.int .i64 x0.Addr, .slice a21 x0.Text.length p22] ?_))
 intro b25 h hs
 refine st 3 [] ?_
 obtain ⟨j29, e42, H⟩ := letJ_some H
 refine k_join (fun ρ h => ∃ (x28 : Bool) (I : Gh), j29 x28 = some r ∧ Fits [(2, .int .i64 x2), (3, .pointer (some ⟨b25, 0, none⟩)), (7, .bool x28)] ρ ∧ St E [rR (tInt .u8) .b a21 p22 x0.Text.length x0.Text, rB b25 [.int .i64 x0.Addr, .slice a21 x0.Text.length p22] 67] I h) ?_ ?_
 ·refine st 1 [] (k_if H (fun c26 H => ?_) (fun c26 H => ?_))
  ·refine st 2 [] (k_op (lB (hs.bl d0) 0 rfl ?_))
   refine k_ite H (fun c27 H => ?_) (fun c27 H => ?_)
   ·refine st 3 [] ?_
    exact k_end ⟨true, I, H, ⟨by kernel_rfl, by kernel_rfl, by kernel_rfl, trivial⟩, hs.pk (.c d1 (.c d0 .n))⟩
   ·refine st 3 [] ?_
    exact k_end ⟨false, I, H, ⟨by kernel_rfl, by kernel_rfl, by kernel_rfl, trivial⟩, hs.pk (.c d1 (.c d0 .n))⟩
  ·refine st 7 [] ?_
   exact k_end ⟨false, I, H, ⟨by kernel_rfl, by kernel_rfl, by kernel_rfl, trivial⟩, hs.pk (.c d1 (.c d0 .n))⟩
 ·clear H
  rintro ρ h ⟨x28, I, H, hf, hs⟩
  refine k_fits _ hf ?_ rfl
  subst e42
  try dsimp only at H
  refine st 3 [] ?_
  obtain ⟨j34, e41, H⟩ := letJ_some H
  refine k_join (fun ρ h => ∃ (x33 : Bool) (I : Gh), j34 x33 = some r ∧ Fits [(3, .pointer (some ⟨b25, 0, none⟩)), (7, .bool x28), (14, .bool x33)] ρ ∧ St E [rR (tInt .u8) .b a21 p22 x0.Text.length x0.Text, rB b25 [.int .i64 x0.Addr, .slice a21 x0.Text.length p22] 67] I h) ?_ ?_
  ·refine st 1 [] (k_if H (fun c30 H => ?_) (fun c30 H => ?_))
   ·refine st 14 [] ?_
    exact k_end ⟨false, I, H, ⟨by kernel_rfl, by kernel_rfl, by kernel_rfl, trivial⟩, hs.pk (.c d0 (.c d0 .n))⟩
   ·refine st 3 [] (k_op (lB (hs.bl d1) 0 rfl ?_))
    refine k_ite H (fun c31 H => ?_) (fun c31 H => ?_)
    ·refine st 9 [] ?_
     exact k_end ⟨true, I, H, ⟨by kernel_rfl, by kernel_rfl, by kernel_rfl, trivial⟩, hs.pk (.c d0 (.c d0 .n))⟩
    ·refine st 2 [] (k_op (lB (hs.bl d1) 0 rfl ?_))
     refine st 1 [] (k_ite H (fun c32 H => ?_) (fun c32 H => ?_))
     ·refine st 4 [] ?_
      exact k_end ⟨true, I, H, ⟨by kernel_rfl, by kernel_rfl, by kernel_rfl, trivial⟩, hs.pk (.c d0 (.c d0 .n))⟩
     ·refine st 4 [] ?_
      exact k_end ⟨false, I, H, ⟨by kernel_rfl, by kernel_rfl, by kernel_rfl, trivial⟩, hs.pk (.c d0 (.c d0 .n))⟩
  ·clear H
   rintro ρ h ⟨x33, I, H, hf, hs⟩
   refine k_fits _ hf ?_ rfl
   subst e41
   try dsimp only at H
   cases x33
   ·rw [cond_false] at H
    refine st 2 [false] ?_
    obtain ⟨j37, e40, H⟩ := letJ_some H
    refine k_join (fun ρ h => ∃ (x36 : Bool) (I : Gh), j37 x36 = some r ∧ Fits [(3, .pointer (some ⟨b25, 0, none⟩)), (7, .bool x28), (29, .bool x36)] ρ ∧ St E [rR (tInt .u8) .b a21 p22 x0.Text.length x0.Text, rB b25 [.int .i64 x0.Addr, .slice a21 x0.Text.length p22] 67] I h) ?_ ?_
    ·refine st 2 [] (k_op (lB (hs.bl d1) 1 rfl ?_))
     obtain ⟨hk, bk⟩ := hs.call tk0 (.c (qB d0) .n)
     refine k_call H (fun _ m => slices_ContainsFunc_bytes__input_strange.calls m hk) ?_
     rintro t35 _ h H ⟨I, _, ⟨rfl, rfl⟩, hk⟩
     replace hs := bk hk ct0 rfl
     cases t35
     ·rw [cond_false] at H
      refine st 2 [] ?_
      exact k_end ⟨false, I, H, ⟨by kernel_rfl, by kernel_rfl, by kernel_rfl, trivial⟩, hs.pk (.c d0 (.c d0 .n))⟩
     ·rw [cond_true] at H
      refine st 2 [] ?_
      exact k_end ⟨true, I, H, ⟨by kernel_rfl, by kernel_rfl, by kernel_rfl, trivial⟩, hs.pk (.c d0 (.c d0 .n))⟩
    ·clear H
     rintro ρ h ⟨x36, I, H, hf, hs⟩
     refine k_fits _ hf ?_ rfl
     subst e40
     try dsimp only at H
     cases x36
     ·rw [cond_false] at H
      refine st 3 [false] (k_if H (fun c38 H => ?_) (fun c38 H => ?_))
      ·refine st 2 [] (k_op (lB (hs.bl d1) 1 rfl ?_))
       refine st 1 [] (k_ite H (fun c39 H => ?_) (fun c39 H => ?_))
       ·refine st 9 [true] ?_
        refine k_retQ ?_
        obtain rfl := Option.some.inj H
        exact ⟨_, by kernel_rfl, I, _, ⟨(.iface 71 (.int .i64 1)), rfl, rfl⟩, hs.pk (.f imEC .n)⟩
       ·refine st 10 [false] ?_
        refine k_retQ ?_
        obtain rfl := Option.some.inj H
        exact ⟨_, by kernel_rfl, I, _, ⟨(.nilIface), rfl, rfl⟩, hs.pk (.f imEN .n)⟩
      ·refine st 15 [false] ?_
       refine k_retQ ?_
       obtain rfl := Option.some.inj H
       exact ⟨_, by kernel_rfl, I, _, ⟨(.nilIface), rfl, rfl⟩, hs.pk (.f imEN .n)⟩
     ·rw [cond_true] at H
      refine st 6 [true] ?_
      refine k_retQ ?_
      obtain rfl := Option.some.inj H
      exact ⟨_, by kernel_rfl, I, _, ⟨(.iface 71 (.int .i64 3)), rfl, rfl⟩, hs.pk (.f imEC .n)⟩
   ·rw [cond_true] at H
    refine st 6 [true] ?_
    refine k_retQ ?_
    obtain rfl := Option.some.inj H
    exact ⟨_, by kernel_rfl, I, _, ⟨(.iface 71 (.int .i64 4)), rfl, rfl⟩, hs.pk (.f imEC .n)⟩

/-! shutter/input.Right -/
def input_Right.l1.m (K : Nat) (x0 : api_In) (x1 : Int) : Nat → Int → Option (GoErr ⊕ (Unit))
  | 0, _ => none
  | k + 1, x36 => (letJ (α := Bool → Option (GoErr ⊕ (Unit))) (fun (x41 : Bool) => (bif x41 then (if 0 ≤ x36 then (if x36 < (x0.Fields.length : Int) then ((input_field.m K (at_ x0.Fields x36) ((x0.Fields.length : Int) == 1) x1).bind fun t54 => (if t54 = GoErr.nil then (input_Right.l1.m K x0 x1 k (w64 (x36 + 1))) else ((input_spot.m x36 t54).bind fun t60 => (some (Sum.inl t60))))) else none) else none) else (some (Sum.inr ())))) fun (j42 : Bool → Option (GoErr ⊕ (Unit))) => (if x36 < (x0.Fields.length : Int) then (j42 true) else (j42 false)))
def input_Right.m (K : Nat) (x0 : api_In) (x1 : Int) : Option GoErr :=
  (letJ (α := Bool → Option GoErr) (fun (x27 : Bool) => (bif x27 then (some (GoErr.no 3)) else (letJ (α := Bool → Option GoErr) (fun (x30 : Bool) => (bif x30 then (if x0.Cursor = 0 then (if (x0.Fields.length : Int) > 0 then (some (GoErr.no 1)) else (some GoErr.nil)) else (some (GoErr.no 1))) else (if x0.Cursor < 0 then (some (GoErr.no 4)) else (if x0.Cursor ≥ x1 then (some (GoErr.no 4)) else ((input_Right.l1.m K x0 x1 K 0).bind fun s37 => match s37 with | .inl q => (some q) | .inr _ => (some GoErr.nil)))))) fun (j31 : Bool → Option GoErr) => ((attr_Bare.m x0.Aid).bind fun t29 => bif t29 then (j31 true) else (j31 false))))) fun (j28 : Bool → Option GoErr) => ((attr_Aid.m x0.Aid).bind fun t26 => bif t26 then (j28 false) else (j28 true)))

theorem input_Right.calls {B I : Gh} {h : Heap} {K : Nat} {x0 : api_In} {x1 : Int} {a21 : Option Addr} {p22 : Nat} {n23 : Nat} {r : GoErr} (H : input_Right.m K x0 x1 = some r)  :
    Fc Tryz.prog 19 #[.agg #[.int .u8 x0.Aid, .int .i64 x0.Cursor, .slice a21 n23 p22], .int .i64 x1] [rR t_api_Entry .b a21 p22 n23 x0.Fields] B I h (fun v L => ∃ (v66 : Value), v = v66 ∧ L = [rE .i v66 r]) := by
 refine fc_of fun E hs => ?_
 unfold input_Right.m at H
 obtain rfl := hs.nR d0
 refine fn_of (args := [.agg #[.int .u8 x0.Aid, .int .i64 x0.Cursor, .slice a21 x0.Fields.length p22], .int .i64 x1]) (rs := [.tmp 4]) (N := 60) Tryz.func19 rfl rfl rfl rfl ?_
 refine st 2 [] (k_op (nB hs [.int .u8 x0.Aid, .int .i64 x0.Cursor, .slice a21 x0.Fields.length p22] ?_))
 intro b25 h hs
 refine st 5 [] ?_
 obtain ⟨j28, e65, H⟩ := letJ_some H
 refine k_join (fun ρ h => ∃ (x27 : Bool) (I : Gh), j28 x27 = some r ∧ Fits [(1, .int .i64 x1), (2, .pointer (some ⟨b25, 0, none⟩)), (8, .bool x27)] ρ ∧ St E [rR t_api_Entry .b a21 p22 x0.Fields.length x0.Fields, rB b25 [.int .u8 x0.Aid, .int .i64 x0.Cursor, .slice a21 x0.Fields.length p22] 46] I h) ?_ ?_
 ·refine st 2 [] (k_op (lB (hs.bl d0) 0 rfl ?_))
  refine k_call H (fun _ m => attr_Aid.calls m) ?_
  rintro t26 _ _ H ⟨rfl, rfl⟩
  cases t26
  ·rw [cond_false] at H
   refine st 3 [] ?_
   exact k_end ⟨true, I, H, ⟨by kernel_rfl, by kernel_rfl, by kernel_rfl, trivial⟩, hs.pk (.c d1 (.c d0 .n))⟩
  ·rw [cond_true] at H
   refine st 3 [] ?_
   exact k_end ⟨false, I, H, ⟨by kernel_rfl, by kernel_rfl, by kernel_rfl, trivial⟩, hs.pk (.c d1 (.c d0 .n))⟩
 ·clear H
  rintro ρ h ⟨x27, I, H, hf, hs⟩
  refine k_fits _ hf ?_ rfl
  subst e65
  try dsimp only at H
  cases x27
  ·rw [cond_false] at H
   refine st 2 [false] ?_
   obtain ⟨j31, e64, H⟩ := letJ_some H
   refine k_join (fun ρ h => ∃ (x30 : Bool) (I : Gh), j31 x30 = some r ∧ Fits [(1, .int .i64 x1), (2, .pointer (some ⟨b25, 0, none⟩)), (14, .bool x30)] ρ ∧ St E [rR t_api_Entry .b a21 p22 x0.Fields.length x0.Fields, rB b25 [.int .u8 x0.Aid, .int .i64 x0.Cursor, .slice a21 x0.Fields.length p22] 46] I h) ?_ ?_
   ·refine st 2 [] (k_op (lB (hs.bl d1) 0 rfl ?_))
    refine k_call H (fun _ m => attr_Bare.calls m) ?_
    rintro t29 _ _ H ⟨rfl, rfl⟩
    cases t29
    ·rw [cond_false] at H
     refine st 2 [] ?_
     exact k_end ⟨false, I, H, ⟨by kernel_rfl, by kernel_rfl, by kernel_rfl, trivial⟩, hs.pk (.c d0 (.c d0 .n))⟩
    ·rw [cond_true] at H
     refine st 2 [] ?_
     exact k_end ⟨true, I, H, ⟨by kernel_rfl, by kernel_rfl, by kernel_rfl, trivial⟩, hs.pk (.c d0 (.c d0 .n))⟩
   ·clear H
    rintro ρ h ⟨x30, I, H, hf, hs⟩
    refine k_fits _ hf ?_ rfl
    subst e64
    try dsimp only at H
    cases x30
    ·rw [cond_false] at H
     refine st 4 [false] (k_op (lB (hs.bl d1) 1 rfl ?_))
     refine k_ite H (fun c34 H => ?_) (fun c34 H => ?_)
     ·refine st 14 [true] ?_
      refine k_retQ ?_
      obtain rfl := Option.some.inj H
      exact ⟨_, by kernel_rfl, I, _, ⟨(.iface 71 (.int .i64 4)), rfl, rfl⟩, hs.pk (.f imEC .n)⟩
     ·refine st 2 [] (k_op (lB (hs.bl d1) 1 rfl ?_))
      refine st 1 [] (k_ite H (fun c35 H => ?_) (fun c35 H => ?_))
      ·refine st 9 [true] ?_
       refine k_retQ ?_
       obtain rfl := Option.some.inj H
       exact ⟨_, by kernel_rfl, I, _, ⟨(.iface 71 (.int .i64 4)), rfl, rfl⟩, hs.pk (.f imEC .n)⟩
      ·refine st 10 [false] (k_op (lB (hs.bl d1) 2 rfl ?_))
       refine st 4 [] ?_
       obtain ⟨s37, m39, HR38⟩ := bind_some H
       refine k_loop 1 (fun k' ρ h => ∃ (x36 : Int) (I : Gh), input_Right.l1.m K x0 x1 k' x36 = some s37 ∧ Fits [(1, .int .i64 x1), (2, .pointer (some ⟨b25, 0, none⟩)), (40, .slice a21 x0.Fields.length p22), (41, .int .i64 (x0.Fields.length : Int)), (42, .int .i64 x36)] ρ ∧ St E [rR t_api_Entry .b a21 p22 x0.Fields.length x0.Fields, rB b25 [.int .u8 x0.Aid, .int .i64 x0.Cursor, .slice a21 x0.Fields.length p22] 46] I h) (fun ρ h => ∃ (I : Gh), Sum.inr () = s37 ∧ Fits [] ρ ∧ St E [] I h) K ⟨0, I, m39, ⟨by kernel_rfl, by kernel_rfl, by kernel_rfl, by kernel_rfl, by kernel_rfl, trivial⟩, hs.pk (.c d0 (.c d0 .n))⟩ ?_ rfl ?_
       ·clear m39 H
        rintro k' ρ h ⟨x36, I, H, hf, hs⟩
        cases k' with
        | zero => cases H
        | succ k =>
         rw [input_Right.l1.m] at H
         refine k_fits _ hf ?_ rfl
         refine st 1 [] ?_
         obtain ⟨j42, e63, H⟩ := letJ_some H
         refine k_join (fun ρ h => ∃ (x41 : Bool) (I : Gh), j42 x41 = some s37 ∧ Fits [(1, .int .i64 x1), (2, .pointer (some ⟨b25, 0, none⟩)), (40, .slice a21 x0.Fields.length p22), (41, .int .i64 (x0.Fields.length : Int)), (42, .int .i64 x36), (43, .bool x41)] ρ ∧ St E [rR t_api_Entry .b a21 p22 x0.Fields.length x0.Fields, rB b25 [.int .u8 x0.Aid, .int .i64 x0.Cursor, .slice a21 x0.Fields.length p22] 46] I h) ?_ ?_
         ·refine st 1 [] (k_ite H (fun c40 H => ?_) (fun c40 H => ?_))
          ·refine st 1 [] ?_
           exact k_end ⟨true, I, H, ⟨by kernel_rfl, by kernel_rfl, by kernel_rfl, by kernel_rfl, by kernel_rfl, by kernel_rfl, trivial⟩, hs.pk (.c d0 (.c d0 .n))⟩
          ·refine st 1 [] ?_
           exact k_end ⟨false, I, H, ⟨by kernel_rfl, by kernel_rfl, by kernel_rfl, by kernel_rfl, by kernel_rfl, by kernel_rfl, trivial⟩, hs.pk (.c d0 (.c d0 .n))⟩
         ·clear H
          rintro ρ h ⟨x41, I, H, hf, hs⟩
          refine k_fits _ hf ?_ rfl
          subst e63
          try dsimp only at H
          cases x41
          ·rw [cond_false] at H
           refine st 2 [false] ?_
           refine k_out rfl ?_
           obtain rfl := Option.some.inj H
           exact xE ⟨I, rfl, trivial, hs.pk .n⟩
          ·rw [cond_true] at H
           obtain ⟨c43, H⟩ := guard_pos H
           obtain ⟨c44, H⟩ := guard_pos H
           refine st 8 [true] (k_val (elemPtr a21 (x36.toNat * 2)) (pI (e := 67) (ik := .i64) (hs.sR d0) c43 c44) ?_)
           obtain ⟨y46, g45, q47⟩ := (hs.sR d0).toSl.seg c43 c44
           obtain ⟨a48, p49, n50, rfl, q52⟩ := t_api_Entry.open_ q47
           obtain rfl := q52.2
           replace hs := hs.pR q52
           refine k_op (lG g45 ?_)
           refine k_op (nA hs [.int .i64 0, .slice none 0 0] (.agg #[.int .i64 0, .slice none 0 0]) ?_)
           intro b53 h hs
           refine st 1 [] (k_op (sN hs 0 [.int .i64 ((at_ x0.Fields x36).Addr), .slice a48 (((at_ x0.Fields x36).Text).length) p49] [.int .i64 ((at_ x0.Fields x36).Addr), .slice a48 (((at_ x0.Fields x36).Text).length) p49] (ones_of rfl) ?_))
           intro h hs
           refine st 3 [] (k_op (lN (hs.bl d0) 0 2 ?_))
           refine st 1 [] (k_op (lB (hs.bl d3) 2 rfl ?_))
           obtain ⟨hk, bk⟩ := hs.call tk0 (.c (qB d1) .n)
           refine st 3 [] (k_call H (fun _ m => input_field.calls m hk) ?_)
           rintro t54 v55 h H ⟨I, _, ⟨_, rfl, rfl⟩, hk⟩
           replace hs := bk hk ct1 rfl
           rcases (hs.er d0).cases with ⟨c57, rfl⟩ | ⟨c57, t58, u59, rfl⟩
           ·rw [if_pos c57] at H
            refine st 14 [false] ?_
            exact k_endL ⟨k, Nat.lt_succ_self _, (w64 (x36 + 1)), I, H, ⟨by kernel_rfl, by kernel_rfl, by kernel_rfl, by kernel_rfl, by kernel_rfl, trivial⟩, hs.pk (.c d3 (.c d3 .n))⟩
           ·rw [if_neg c57] at H
            obtain ⟨hk, bk⟩ := hs.call tk0 (.c (xK d0) .n)
            refine st 12 [true] (k_call H (fun _ m => input_spot.calls m hk) ?_)
            rintro t60 v61 h H ⟨I, _, ⟨_, rfl, rfl⟩, hk⟩
            replace hs := bk hk ct1 rfl
            refine st 2 [] ?_
            refine k_retQ (krL ?_)
            obtain rfl := Option.some.inj H
            obtain rfl := Option.some.inj HR38
            exact ⟨_, by kernel_rfl, I, _, ⟨(v61), rfl, rfl⟩, hs.pk (.c d0 .n)⟩
       ·rintro ρ h ⟨I, rfl, hf, hs⟩
        have H := HR38
        try dsimp only at H
        refine k_fits _ hf ?_ rfl
        refine st 4 [] ?_
        refine k_retQ ?_
        obtain rfl := Option.some.inj H
        exact ⟨_, by kernel_rfl, I, _, ⟨(.nilIface), rfl, rfl⟩, hs.pk (.f imEN .n)⟩
    ·rw [cond_true] at H
     refine st 5 [true] (k_op (lB (hs.bl d1) 1 rfl ?_))
     refine k_iteN H (fun c32 H => ?_) (fun c32 H => ?_)
     ·refine st 2 [] (k_op (lB (hs.bl d1) 2 rfl ?_))
      refine st 1 [] (k_ite H (fun c33 H => ?_) (fun c33 H => ?_))
      ·refine st 8 [true] ?_
       refine k_retQ ?_
       obtain rfl := Option.some.inj H
       exact ⟨_, by kernel_rfl, I, _, ⟨(.iface 71 (.int .i64 1)), rfl, rfl⟩, hs.pk (.f imEC .n)⟩
      ·refine st 8 [false] ?_
       refine k_retQ ?_
       obtain rfl := Option.some.inj H
       exact ⟨_, by kernel_rfl, I, _, ⟨(.nilIface), rfl, rfl⟩, hs.pk (.f imEN .n)⟩
     ·refine st 13 [true] ?_
      refine k_retQ ?_
      obtain rfl := Option.some.inj H
      exact ⟨_, by kernel_rfl, I, _, ⟨(.iface 71 (.int .i64 1)), rfl, rfl⟩, hs.pk (.f imEC .n)⟩
  ·rw [cond_true] at H
   refine st 6 [true] ?_
   refine k_retQ ?_
   obtain rfl := Option.some.inj H
   exact ⟨_, by kernel_rfl, I, _, ⟨(.iface 71 (.int .i64 3)), rfl, rfl⟩, hs.pk (.f imEC .n)⟩

/-! shutter/six.digit -/
def six_digit.m (x0 : Int) : Option Int :=
  (if x0 ≥ 97 then (some (w64 ((w64 ((w64 (x0)) - 39)) - 48))) else (some (w64 ((w64 (x0)) - 48))))

theorem six_digit.calls {x0 : Int} {h : Heap} {r : Int} (H : six_digit.m x0 = some r)   :
    Ret Tryz.prog 134 #[.int .u8 x0] h (fun v h' => .int .i64 r = v ∧ h' = h) := by
 unfold six_digit.m at H
 refine fn_of (args := [.int .u8 x0]) (rs := [.tmp 2]) (N := 14) Tryz.func134 rfl rfl rfl rfl ?_
 refine st 20 [] (k_ite H (fun c21 H => ?_) (fun c21 H => ?_))
 ·refine st 22 [true] ?_
  refine k_retQ ?_
  obtain rfl := Option.some.inj H
  exact ⟨_, by kernel_rfl, rfl, rfl⟩
 ·refine st 17 [false] ?_
  refine k_retQ ?_
  obtain rfl := Option.some.inj H
  exact ⟨_, by kernel_rfl, rfl, rfl⟩

/-! shutter/six.at -/
def six_at.m (x0 : Int) : Option Int :=
  (if 0 ≤ (w64 (2 * x0)) then (if (w64 (2 * x0)) < 128 then (if 0 ≤ (w64 ((w64 (2 * x0)) + 1)) then (if (w64 ((w64 (2 * x0)) + 1)) < 128 then ((six_digit.m (bt (⟨#[52, 48, 99, 49, 99, 50, 99, 51, 99, 52, 99, 53, 99, 54, 99, 55, 99, 56, 99, 57, 52, 97, 52, 98, 52, 99, 52, 100, 52, 101, 52, 102, 53, 48, 100, 49, 100, 50, 100, 51, 100, 52, 100, 53, 100, 54, 100, 55, 100, 56, 100, 57, 53, 97, 53, 98, 53, 99, 53, 100, 53, 101, 53, 102, 54, 48, 54, 49, 101, 50, 101, 51, 101, 52, 101, 53, 101, 54, 101, 55, 101, 56, 101, 57, 54, 97, 54, 98, 54, 99, 54, 100, 54, 101, 54, 102, 102, 48, 102, 49, 102, 50, 102, 51, 102, 52, 102, 53, 102, 54, 102, 55, 102, 56, 102, 57, 55, 97, 55, 98, 55, 99, 55, 100, 55, 101, 55, 102]⟩ : ByteArray) (w64 (2 * x0)))).bind fun t25 => ((six_digit.m (bt (⟨#[52, 48, 99, 49, 99, 50, 99, 51, 99, 52, 99, 53, 99, 54, 99, 55, 99, 56, 99, 57, 52, 97, 52, 98, 52, 99, 52, 100, 52, 101, 52, 102, 53, 48, 100, 49, 100, 50, 100, 51, 100, 52, 100, 53, 100, 54, 100, 55, 100, 56, 100, 57, 53, 97, 53, 98, 53, 99, 53, 100, 53, 101, 53, 102, 54, 48, 54, 49, 101, 50, 101, 51, 101, 52, 101, 53, 101, 54, 101, 55, 101, 56, 101, 57, 54, 97, 54, 98, 54, 99, 54, 100, 54, 101, 54, 102, 102, 48, 102, 49, 102, 50, 102, 51, 102, 52, 102, 53, 102, 54, 102, 55, 102, 56, 102, 57, 55, 97, 55, 98, 55, 99, 55, 100, 55, 101, 55, 102]⟩ : ByteArray) (w64 ((w64 (2 * x0)) + 1)))).bind fun t26 => (some (IntKind.u8.wrap ((bOr .i64 (shl .i64 t25 4) t26)))))) else none) else none) else none) else none)

theorem six_at.calls {x0 : Int} {h : Heap} {r : Int} (H : six_at.m x0 = some r)   :
    Ret Tryz.prog 128 #[.int .i64 x0] h (fun v h' => .int .u8 r = v ∧ h' = h) := by
 unfold six_at.m at H
 refine fn_of (args := [.int .i64 x0]) (rs := [.tmp 2]) (N := 15) Tryz.func128 rfl rfl rfl rfl ?_
 refine st 5 [] ?_
 refine k_regP 13 ?_
 obtain ⟨c21, H⟩ := guard_pos H
 obtain ⟨c22, H⟩ := guard_pos H
 refine aRun [0, 1] 11 Keep.refl ?_
 refine aP 2 (.int .u8 (bt (⟨#[52, 48, 99, 49, 99, 50, 99, 51, 99, 52, 99, 53, 99, 54, 99, 55, 99, 56, 99, 57, 52, 97, 52, 98, 52, 99, 52, 100, 52, 101, 52, 102, 53, 48, 100, 49, 100, 50, 100, 51, 100, 52, 100, 53, 100, 54, 100, 55, 100, 56, 100, 57, 53, 97, 53, 98, 53, 99, 53, 100, 53, 101, 53, 102, 54, 48, 54, 49, 101, 50, 101, 51, 101, 52, 101, 53, 101, 54, 101, 55, 101, 56, 101, 57, 54, 97, 54, 98, 54, 99, 54, 100, 54, 101, 54, 102, 102, 48, 102, 49, 102, 50, 102, 51, 102, 52, 102, 53, 102, 54, 102, 55, 102, 56, 102, 57, 55, 97, 55, 98, 55, 99, 55, 100, 55, 101, 55, 102]⟩ : ByteArray) (w64 (2 * x0)))) rfl (pr_indexStr (s := (⟨#[52, 48, 99, 49, 99, 50, 99, 51, 99, 52, 99, 53, 99, 54, 99, 55, 99, 56, 99, 57, 52, 97, 52, 98, 52, 99, 52, 100, 52, 101, 52, 102, 53, 48, 100, 49, 100, 50, 100, 51, 100, 52, 100, 53, 100, 54, 100, 55, 100, 56, 100, 57, 53, 97, 53, 98, 53, 99, 53, 100, 53, 101, 53, 102, 54, 48, 54, 49, 101, 50, 101, 51, 101, 52, 101, 53, 101, 54, 101, 55, 101, 56, 101, 57, 54, 97, 54, 98, 54, 99, 54, 100, 54, 101, 54, 102, 102, 48, 102, 49, 102, 50, 102, 51, 102, 52, 102, 53, 102, 54, 102, 55, 102, 56, 102, 57, 55, 97, 55, 98, 55, 99, 55, 100, 55, 101, 55, 102]⟩ : ByteArray)) (k := .i64) (i := (w64 (2 * x0))) (by kernel_rfl) (by kernel_rfl) (by kernel_rfl) c21 c22) Keep.refl ?_
 obtain ⟨c23, H⟩ := guard_pos H
 obtain ⟨c24, H⟩ := guard_pos H
 refine aRun [5, 6, 7] 7 Keep.refl ?_
 refine aP 8 (.int .u8 (bt (⟨#[52, 48, 99, 49, 99, 50, 99, 51, 99, 52, 99, 53, 99, 54, 99, 55, 99, 56, 99, 57, 52, 97, 52, 98, 52, 99, 52, 100, 52, 101, 52, 102, 53, 48, 100, 49, 100, 50, 100, 51, 100, 52, 100, 53, 100, 54, 100, 55, 100, 56, 100, 57, 53, 97, 53, 98, 53, 99, 53, 100, 53, 101, 53, 102, 54, 48, 54, 49, 101, 50, 101, 51, 101, 52, 101, 53, 101, 54, 101, 55, 101, 56, 101, 57, 54, 97, 54, 98, 54, 99, 54, 100, 54, 101, 54, 102, 102, 48, 102, 49, 102, 50, 102, 51, 102, 52, 102, 53, 102, 54, 102, 55, 102, 56, 102, 57, 55, 97, 55, 98, 55, 99, 55, 100, 55, 101, 55, 102]⟩ : ByteArray) (w64 ((w64 (2 * x0)) + 1)))) rfl (pr_indexStr (s := (⟨#[52, 48, 99, 49, 99, 50, 99, 51, 99, 52, 99, 53, 99, 54, 99, 55, 99, 56, 99, 57, 52, 97, 52, 98, 52, 99, 52, 100, 52, 101, 52, 102, 53, 48, 100, 49, 100, 50, 100, 51, 100, 52, 100, 53, 100, 54, 100, 55, 100, 56, 100, 57, 53, 97, 53, 98, 53, 99, 53, 100, 53, 101, 53, 102, 54, 48, 54, 49, 101, 50, 101, 51, 101, 52, 101, 53, 101, 54, 101, 55, 101, 56, 101, 57, 54, 97, 54, 98, 54, 99, 54, 100, 54, 101, 54, 102, 102, 48, 102, 49, 102, 50, 102, 51, 102, 52, 102, 53, 102, 54, 102, 55, 102, 56, 102, 57, 55, 97, 55, 98, 55, 99, 55, 100, 55, 101, 55, 102]⟩ : ByteArray)) (k := .i64) (i := (w64 ((w64 (2 * x0)) + 1))) (by kernel_rfl) (by kernel_rfl) (by kernel_rfl) c23 c24) Keep.refl ?_
 refine aO1 3 rfl (o_call H (fun _ m => six_digit.calls m) ?_)
 rintro t25 _ _ H ⟨rfl, rfl⟩
 refine ⟨Keep.refl, ?_⟩
 refine aRun [4] 4 Keep.refl ?_
 refine aO1 9 rfl (o_call H (fun _ m => six_digit.calls m) ?_)
 rintro t26 _ _ H ⟨rfl, rfl⟩
 refine ⟨Keep.refl, ?_⟩
 refine aRun [10, 11, 12] 0 Keep.refl ?_
 refine aEnd ?_
 refine k_retQ ?_
 obtain rfl := Option.some.inj H
 exact ⟨_, by kernel_rfl, rfl, rfl⟩

/-! shutter/six.Put -/
def six_Put.m (x0 : Int) : Option (Int × GoErr) :=
  (if x0 < 0 then (some (0, (GoErr.no 1))) else (if x0 ≥ 64 then (some (0, (GoErr.no 1))) else ((six_at.m x0).bind fun t23 => (some (t23, GoErr.nil)))))

theorem six_Put.calls {B I : Gh} {h : Heap} {x0 : Int} {r : (Int × GoErr)} (H : six_Put.m x0 = some r)  :
    Fc Tryz.prog 112 #[.int .i64 x0] [] B I h (fun v L => ∃ (v24 : Value), v = .tuple #[.int .u8 r.1, v24] ∧ L = [rE .i v24 r.2]) := by
 refine fc_of fun E hs => ?_
 unfold six_Put.m at H
 refine fn_of (args := [.int .i64 x0]) (rs := [.tmp 2, .tmp 3]) (N := 13) Tryz.func112 rfl rfl rfl rfl ?_
 refine st 9 [] (k_ite H (fun c21 H => ?_) (fun c21 H => ?_))
 ·refine st 12 [true] ?_
  refine k_retQ ?_
  obtain rfl := Option.some.inj H
  exact ⟨_, by kernel_rfl, I, _, ⟨(.iface 71 (.int .i64 1)), rfl, rfl⟩, hs.pk (.f imEC .n)⟩
 ·refine st 2 [] (k_ite H (fun c22 H => ?_) (fun c22 H => ?_))
  ·refine st 9 [true] ?_
   refine k_retQ ?_
   obtain rfl := Option.some.inj H
   exact ⟨_, by kernel_rfl, I, _, ⟨(.iface 71 (.int .i64 1)), rfl, rfl⟩, hs.pk (.f imEC .n)⟩
  ·refine st 7 [false] (k_call H (fun _ m => six_at.calls m) ?_)
   rintro t23 _ _ H ⟨rfl, rfl⟩
   refine st 3 [] ?_
   refine k_retQ ?_
   obtain rfl := Option.some.inj H
   exact ⟨_, by kernel_rfl, I, _, ⟨(.nilIface), rfl, rfl⟩, hs.pk (.f imEN .n)⟩

/-! shutter/addr.sized -/
def addr_sized.m (x0 : Int) : Option Bool :=
  (if x0 ≥ 1 then (some (decide (x0 ≤ 16383))) else (some false))

theorem addr_sized.calls {x0 : Int} {h : Heap} {r : Bool} (H : addr_sized.m x0 = some r)   :
    Ret Tryz.prog 122 #[.int .i64 x0] h (fun v h' => .bool r = v ∧ h' = h) := by
 unfold addr_sized.m at H
 refine fn_of (args := [.int .i64 x0]) (rs := [.tmp 2]) (N := 9) Tryz.func122 rfl rfl rfl rfl ?_
 refine st 7 [] (k_ite H (fun c21 H => ?_) (fun c21 H => ?_))
 ·refine st 6 [] ?_
  refine k_retQ ?_
  obtain rfl := Option.some.inj H
  exact ⟨_, by kernel_rfl, rfl, rfl⟩
 ·refine st 6 [] ?_
  refine k_retQ ?_
  obtain rfl := Option.some.inj H
  exact ⟨_, by kernel_rfl, rfl, rfl⟩

/-! shutter/addr.Long -/
def addr_Long.m (x0 : Int) : Option Bool :=
  (some (decide (x0 > 4096)))

theorem addr_Long.calls {x0 : Int} {h : Heap} {r : Bool} (H : addr_Long.m x0 = some r)   :
    Ret Tryz.prog 123 #[.int .i64 x0] h (fun v h' => .bool r = v ∧ h' = h) := by
 unfold addr_Long.m at H
 refine fn_of (args := [.int .i64 x0]) (rs := [.tmp 2]) (N := 5) Tryz.func123 rfl rfl rfl rfl ?_
 refine st 10 [] ?_
 refine k_retQ ?_
 obtain rfl := Option.some.inj H
 exact ⟨_, by kernel_rfl, rfl, rfl⟩

/-! shutter/addr.Put -/
def addr_Put.l1.m (K : Nat) (x0 : Int) : Nat → Int → (List Int) → Option (((List Int) × GoErr) ⊕ ((List Int)))
  | 0, _, _ => none
  | k + 1, x33, x35 => (letJ (α := Bool → Option (((List Int) × GoErr) ⊕ ((List Int)))) (fun (x42 : Bool) => (bif x42 then (if 0 ≤ x33 then (if x33 < ([(shr .i64 x0 6), (bAnd .i64 x0 63)].length : Int) then ((six_Put.m (at_ [(shr .i64 x0 6), (bAnd .i64 x0 63)] x33)).bind fun t46 => (if t46.2 = GoErr.nil then (if x33 < 2 then (addr_Put.l1.m K x0 k (w64 (x33 + 1)) (x35.set x33.toNat t46.1)) else none) else (some (Sum.inl ((List.replicate 2 (0 : Int)), t46.2))))) else none) else none) else (some (Sum.inr x35)))) fun (j43 : Bool → Option (((List Int) × GoErr) ⊕ ((List Int)))) => (if x33 < (2 : Int) then (j43 true) else (j43 false)))
def addr_Put.m (K : Nat) (x0 : Int) (x1 : Int) : Option ((List Int) × GoErr) :=
  (letJ (α := Bool → Option ((List Int) × GoErr)) (fun (x23 : Bool) => (bif x23 then (some ((List.replicate 2 (0 : Int)), (GoErr.no 1))) else (letJ (α := Bool → Option ((List Int) × GoErr)) (fun (x27 : Bool) => (bif x27 then (some ((List.replicate 2 (0 : Int)), (GoErr.no 4))) else ((addr_Long.m x1).bind fun t29 => bif t29 then (some ([(IntKind.u8.wrap ((shr .i64 x0 8))), (IntKind.u8.wrap (x0))], GoErr.nil)) else ((addr_Put.l1.m K x0 K 0 (List.replicate 2 (0 : Int))).bind fun s36 => match s36 with | .inl q => (some q) | .inr x38 => (some (x38, GoErr.nil)))))) fun (j28 : Bool → Option ((List Int) × GoErr)) => (if x0 < 0 then (j28 true) else (if x0 ≥ x1 then (j28 true) else (j28 false)))))) fun (j24 : Bool → Option ((List Int) × GoErr)) => ((addr_sized.m x1).bind fun t22 => bif t22 then (j24 false) else (j24 true)))

theorem addr_Put.calls {B I : Gh} {h : Heap} {K : Nat} {x0 : Int} {x1 : Int} {r : ((List Int) × GoErr)} (H : addr_Put.m K x0 x1 = some r)  :
    Fc Tryz.prog 110 #[.int .i64 x0, .int .i64 x1] [] B I h (fun v L => ∃ (v57 : Value), v = .tuple #[.agg (List.map (Value.int .u8) r.1).toArray, v57] ∧ L = [rE .i v57 r.2] ∧ List.length r.1 = 2) := by
 refine fc_of fun E hs => ?_
 unfold addr_Put.m at H
 refine fn_of2 (args := [.int .i64 x0, .int .i64 x1]) (rs := [.cell 4 160, .tmp 5]) (N := 61) Tryz.func110 rfl rfl rfl rfl ?_
 refine st 2 [] (k_op (nA hs (List.map (Value.int .u8) (List.replicate 2 (0 : Int))) (.agg (List.map (Value.int .u8) (List.replicate 2 (0 : Int))).toArray) ?_))
 intro b21 h hs
 refine st 5 [] ?_
 obtain ⟨j24, e55, H⟩ := letJ_some H
 refine k_join (fun ρ h => ∃ (x23 : Bool) (I : Gh), j24 x23 = some r ∧ Fits [(0, .int .i64 x0), (1, .int .i64 x1), (4, .pointer (some ⟨b21, 0, none⟩)), (11, .bool x23)] ρ ∧ St E [rB b21 (List.map (Value.int .u8) (List.replicate 2 (0 : Int))) 160] I h) ?_ ?_
 ·refine st 2 [] (k_call H (fun _ m => addr_sized.calls m) ?_)
  rintro t22 _ _ H ⟨rfl, rfl⟩
  cases t22
  ·rw [cond_false] at H
   refine st 3 [] ?_
   exact k_end ⟨true, I, H, ⟨by kernel_rfl, by kernel_rfl, by kernel_rfl, by kernel_rfl, trivial⟩, hs.pk (.c d0 .n)⟩
  ·rw [cond_true] at H
   refine st 3 [] ?_
   exact k_end ⟨false, I, H, ⟨by kernel_rfl, by kernel_rfl, by kernel_rfl, by kernel_rfl, trivial⟩, hs.pk (.c d0 .n)⟩
 ·clear H
  rintro ρ h ⟨x23, I, H, hf, hs⟩
  refine k_fits _ hf ?_ rfl
  subst e55
  try dsimp only at H
  cases x23
  ·rw [cond_false] at H
   refine st 2 [false] ?_
   obtain ⟨j28, e54, H⟩ := letJ_some H
   refine k_join (fun ρ h => ∃ (x27 : Bool) (I : Gh), j28 x27 = some r ∧ Fits [(0, .int .i64 x0), (1, .int .i64 x1), (4, .pointer (some ⟨b21, 0, none⟩)), (17, .bool x27)] ρ ∧ St E [rB b21 (List.map (Value.int .u8) (List.replicate 2 (0 : Int))) 160] I h) ?_ ?_
   ·refine st 2 [] (k_ite H (fun c25 H => ?_) (fun c25 H => ?_))
    ·refine st 7 [] ?_
     exact k_end ⟨true, I, H, ⟨by kernel_rfl, by kernel_rfl, by kernel_rfl, by kernel_rfl, trivial⟩, hs.pk (.c d0 .n)⟩
    ·refine st 3 [] (k_ite H (fun c26 H => ?_) (fun c26 H => ?_))
     ·refine st 3 [] ?_
      exact k_end ⟨true, I, H, ⟨by kernel_rfl, by kernel_rfl, by kernel_rfl, by kernel_rfl, trivial⟩, hs.pk (.c d0 .n)⟩
     ·refine st 3 [] ?_
      exact k_end ⟨false, I, H, ⟨by kernel_rfl, by kernel_rfl, by kernel_rfl, by kernel_rfl, trivial⟩, hs.pk (.c d0 .n)⟩
   ·clear H
    rintro ρ h ⟨x27, I, H, hf, hs⟩
    refine k_fits _ hf ?_ rfl
    subst e54
    try dsimp only at H
    cases x27
    ·rw [cond_false] at H
     refine st 4 [false] (k_call H (fun _ m => addr_Long.calls m) ?_)
     rintro t29 _ _ H ⟨rfl, rfl⟩
     cases t29
     ·rw [cond_false] at H
      refine st 7 [false] (k_op (nA hs (List.map (Value.int .u8) (List.replicate 2 (0 : Int))) (.agg (List.map (Value.int .u8) (List.replicate 2 (0 : Int))).toArray) ?_))
      intro b30 h hs
      refine st 8 [] (k_op (nS (e := 3) hs .i (tInt .i64) ([(shr .i64 x0 6), (bAnd .i64 x0 63)] : List Int) [.int .i64 (shr .i64 x0 6), .int .i64 (bAnd .i64 x0 63)] 1 (.int .i64 0) (Reps.int (I := (Cl.G .i E.B I)) (k := .i64) (l := [(shr .i64 x0 6), (bAnd .i64 x0 63)])) ?_))
      intro b31 h hs
      refine st 4 [] ?_
      obtain ⟨s36, m40, HR39⟩ := bind_some H
      refine k_loop 1 (fun k' ρ h => ∃ (x33 : Int) (x35 : List Int) (I : Gh), addr_Put.l1.m K x0 k' x33 x35 = some s36 ∧ Fits [(4, .pointer (some ⟨b21, 0, none⟩)), (6, .pointer (some ⟨b30, 0, none⟩)), (40, .slice (some ⟨b31, 0, none⟩) 2 2), (41, .int .i64 (2 : Int)), (42, .int .i64 x33)] ρ ∧ List.length x35 = 2 ∧ St E [rO (tInt .i64) .i (some ⟨b31, 0, none⟩) 2 2 [(shr .i64 x0 6), (bAnd .i64 x0 63)], rB b21 (List.map (Value.int .u8) (List.replicate 2 (0 : Int))) 160, rB b30 (List.map (Value.int .u8) x35) 160] I h) (fun ρ h => ∃ (x38 : List Int) (I : Gh), Sum.inr x38 = s36 ∧ Fits [(4, .pointer (some ⟨b21, 0, none⟩)), (6, .pointer (some ⟨b30, 0, none⟩))] ρ ∧ List.length x38 = 2 ∧ St E [rB b21 (List.map (Value.int .u8) (List.replicate 2 (0 : Int))) 160, rB b30 (List.map (Value.int .u8) x38) 160] I h) K ⟨0, (List.replicate 2 (0 : Int)), I, m40, ⟨by kernel_rfl, by kernel_rfl, by kernel_rfl, by kernel_rfl, by kernel_rfl, trivial⟩, (List.length_replicate (n := 2) (a := (0 : Int))), hs.pk (.c d0 (.c d1 (.c d0 .n)))⟩ ?_ rfl ?_
      ·clear m40 H
       rintro k' ρ h ⟨x33, x35, I, H, hf, hl34, hs⟩
       cases k' with
       | zero => cases H
       | succ k =>
        rw [addr_Put.l1.m] at H
        refine k_fits _ hf ?_ rfl
        refine st 1 [] ?_
        obtain ⟨j43, e53, H⟩ := letJ_some H
        refine k_join (fun ρ h => ∃ (x42 : Bool) (I : Gh), j43 x42 = some s36 ∧ Fits [(4, .pointer (some ⟨b21, 0, none⟩)), (6, .pointer (some ⟨b30, 0, none⟩)), (40, .slice (some ⟨b31, 0, none⟩) 2 2), (41, .int .i64 (2 : Int)), (42, .int .i64 x33), (43, .bool x42)] ρ ∧ St E [rO (tInt .i64) .i (some ⟨b31, 0, none⟩) 2 2 [(shr .i64 x0 6), (bAnd .i64 x0 63)], rB b21 (List.map (Value.int .u8) (List.replicate 2 (0 : Int))) 160, rB b30 (List.map (Value.int .u8) x35) 160] I h) ?_ ?_
        ·refine st 1 [] (k_ite H (fun c41 H => ?_) (fun c41 H => ?_))
         ·refine st 1 [] ?_
          exact k_end ⟨true, I, H, ⟨by kernel_rfl, by kernel_rfl, by kernel_rfl, by kernel_rfl, by kernel_rfl, by kernel_rfl, trivial⟩, hs.pk (.c d0 (.c d0 (.c d0 .n)))⟩
         ·refine st 1 [] ?_
          exact k_end ⟨false, I, H, ⟨by kernel_rfl, by kernel_rfl, by kernel_rfl, by kernel_rfl, by kernel_rfl, by kernel_rfl, trivial⟩, hs.pk (.c d0 (.c d0 (.c d0 .n)))⟩
        ·clear H
         rintro ρ h ⟨x42, I, H, hf, hs⟩
         refine k_fits _ hf ?_ rfl
         subst e53
         try dsimp only at H
         cases x42
         ·rw [cond_false] at H
          refine st 2 [false] ?_
          refine k_out rfl ?_
          obtain rfl := Option.some.inj H
          exact xE ⟨x35, I, rfl, ⟨by kernel_rfl, by kernel_rfl, trivial⟩, hl34, hs.pk (.c d1 (.c d1 .n))⟩
         ·rw [cond_true] at H
          obtain ⟨c44, H⟩ := guard_pos H
          obtain ⟨c45, H⟩ := guard_pos H
          refine st 8 [true] (k_val (elemPtr (some ⟨b31, 0, none⟩) (x33.toNat * 1)) (pI (e := 3) (ik := .i64) (hs.sO d0) c44 c45) ?_)
          refine k_op (lC ((hs.sO d0).cell1 c44 c45) ?_)
          obtain ⟨hk, bk⟩ := hs.call tk0 .n
          refine st 6 [] (k_call H (fun _ m => six_Put.calls m hk) ?_)
          rintro t46 _ h H ⟨I, _, ⟨v47, rfl, rfl⟩, hk⟩
          replace hs := bk hk ct1 rfl
          rcases (hs.er d0).cases with ⟨c49, rfl⟩ | ⟨c49, t50, u51, rfl⟩
          ·rw [if_pos c49] at H
           obtain ⟨c52, H⟩ := guard_pos H
           refine st 17 [false] (k_val (elemPtr (some ⟨b30, 0, none⟩) (x33.toNat * 1)) (pr_indexArr (e := 5) (kk := .i64) (n := 2) (by kernel_rfl) (by kernel_rfl) (by kernel_rfl) (by kernel_rfl) c44 c52) ?_)
           refine k_op (sA (hs.f d3) t46.1 hl34 c44 c52 ?_)
           intro h hs
           refine st 6 [] ?_
           exact k_endL ⟨k, Nat.lt_succ_self _, (w64 (x33 + 1)), (x35.set x33.toNat t46.1), I, H, ⟨by kernel_rfl, by kernel_rfl, by kernel_rfl, by kernel_rfl, by kernel_rfl, trivial⟩, (len_set hl34), hs.pk (.c d2 (.c d2 (.c d0 .n)))⟩
          ·rw [if_neg c49] at H
           refine st 17 [true] (k_op (sAN (l2 := (List.replicate 2 (0 : Int))) (hs.f d2) (List.length_replicate (n := 2) (a := (0 : Int))) (List.length_replicate (n := 2) (a := (0 : Int))) ?_))
           intro h hs
           refine st 2 [] ?_
           refine k_retQ (krL ?_)
           obtain rfl := Option.some.inj H
           obtain rfl := Option.some.inj HR39
           exact ⟨[.agg (List.map (Value.int .u8) (List.replicate 2 (0 : Int))).toArray, (.iface t50 u51)], (.cons (.agg (by kernel_rfl) (by kernel_rfl) (by kernel_rfl) ((hs.bl d0).arrSeg (List.length_replicate (n := 2) (a := (0 : Int))))) (.cons (.tmp (by kernel_rfl)) .nil)), I, _, ⟨((.iface t50 u51)), rfl, rfl, (List.length_replicate (n := 2) (a := (0 : Int)))⟩, hs.pk (.c d1 .n)⟩
      ·rintro ρ h ⟨x38, I, rfl, hf, hl37, hs⟩
       have H := HR39
       try dsimp only at H
       refine k_fits _ hf ?_ rfl
       refine st 2 [] (k_op (lG ((hs.bl d1).arrSeg hl37) ?_))
       refine k_op (sAN (l2 := x38) hs (List.length_replicate (n := 2) (a := (0 : Int))) hl37 ?_)
       intro h hs
       refine st 2 [] ?_
       refine k_retQ ?_
       obtain rfl := Option.some.inj H
       exact ⟨[.agg (List.map (Value.int .u8) x38).toArray, .nilIface], (.cons (.agg (by kernel_rfl) (by kernel_rfl) (by kernel_rfl) ((hs.bl d0).arrSeg hl37)) (.cons (.tmp (by kernel_rfl)) .nil)), I, _, ⟨(.nilIface), rfl, rfl, hl37⟩, hs.pk (.f imEN .n)⟩
     ·rw [cond_true] at H
      refine st 11 [true] (k_op (sAN (l2 := [(IntKind.u8.wrap ((shr .i64 x0 8))), (IntKind.u8.wrap (x0))]) hs (List.length_replicate (n := 2) (a := (0 : Int))) rfl ?_))
      intro h hs
      refine st 2 [] ?_
      refine k_retQ ?_
      obtain rfl := Option.some.inj H
      exact ⟨[.agg (List.map (Value.int .u8) [(IntKind.u8.wrap ((shr .i64 x0 8))), (IntKind.u8.wrap (x0))]).toArray, .nilIface], (.cons (.agg (by kernel_rfl) (by kernel_rfl) (by kernel_rfl) ((hs.bl d0).arrSeg rfl)) (.cons (.tmp (by kernel_rfl)) .nil)), I, _, ⟨(.nilIface), rfl, rfl, rfl⟩, hs.pk (.f imEN .n)⟩
    ·rw [cond_true] at H
     refine st 5 [true] (k_op (sAN (l2 := (List.replicate 2 (0 : Int))) hs (List.length_replicate (n := 2) (a := (0 : Int))) (List.length_replicate (n := 2) (a := (0 : Int))) ?_))
     intro h hs
     refine st 2 [] ?_
     refine k_retQ ?_
     obtain rfl := Option.some.inj H
     exact ⟨[.agg (List.map (Value.int .u8) (List.replicate 2 (0 : Int))).toArray, .iface 71 (.int .i64 4)], (.cons (.agg (by kernel_rfl) (by kernel_rfl) (by kernel_rfl) ((hs.bl d0).arrSeg (List.length_replicate (n := 2) (a := (0 : Int))))) (.cons (.tmp (by kernel_rfl)) .nil)), I, _, ⟨(.iface 71 (.int .i64 4)), rfl, rfl, (List.length_replicate (n := 2) (a := (0 : Int)))⟩, hs.pk (.f imEC .n)⟩
  ·rw [cond_true] at H
   refine st 5 [true] (k_op (sAN (l2 := (List.replicate 2 (0 : Int))) hs (List.length_replicate (n := 2) (a := (0 : Int))) (List.length_replicate (n := 2) (a := (0 : Int))) ?_))
   intro h hs
   refine st 2 [] ?_
   refine k_retQ ?_
   obtain rfl := Option.some.inj H
   exact ⟨[.agg (List.map (Value.int .u8) (List.replicate 2 (0 : Int))).toArray, .iface 71 (.int .i64 1)], (.cons (.agg (by kernel_rfl) (by kernel_rfl) (by kernel_rfl) ((hs.bl d0).arrSeg (List.length_replicate (n := 2) (a := (0 : Int))))) (.cons (.tmp (by kernel_rfl)) .nil)), I, _, ⟨(.iface 71 (.int .i64 1)), rfl, rfl, (List.length_replicate (n := 2) (a := (0 : Int)))⟩, hs.pk (.f imEC .n)⟩

/-! shutter/input.place -/
def input_place.m (K : Nat) (x0 : Int) (x1 : Int) : Option (List Int) :=
  ((addr_Put.m K x0 x1).bind fun t21 => (some t21.1))

theorem input_place.calls {B I : Gh} {h : Heap} {K : Nat} {x0 : Int} {x1 : Int} {r : (List Int)} (H : input_place.m K x0 x1 = some r)  :
    Fc Tryz.prog 71 #[.int .i64 x0, .int .i64 x1] [] B I h (fun v L => ∃ (a27 : Option Addr) (p28 : Nat) (n29 : Nat), v = .slice a27 n29 p28 ∧ L = [rR (tInt .u8) .i a27 p28 n29 r]) := by
 refine fc_of fun E hs => ?_
 unfold input_place.m at H
 refine fn_of (args := [.int .i64 x0, .int .i64 x1]) (rs := [.tmp 4]) (N := 14) Tryz.func71 rfl rfl rfl rfl ?_
 obtain ⟨hk, bk⟩ := hs.call tk0 .n
 refine st 8 [] (k_call H (fun _ m => addr_Put.calls m hk) ?_)
 rintro t21 _ h H ⟨I, _, ⟨v23, rfl, rfl, hl22⟩, hk⟩
 replace hs := bk hk ct1 rfl
 refine st 3 [] (k_op (nA hs (List.map (Value.int .u8) (List.replicate 2 (0 : Int))) (.agg (List.map (Value.int .u8) (List.replicate 2 (0 : Int))).toArray) ?_))
 intro b25 h hs
 refine k_op (sAN (l2 := t21.1) hs (List.length_replicate (n := 2) (a := (0 : Int))) hl22 ?_)
 intro h hs
 obtain ⟨I, hs⟩ := hs.fA hl22
 refine st 7 [] ?_
 refine k_retQ ?_
 obtain rfl := Option.some.inj H
 exact ⟨_, by kernel_rfl, I, _, ⟨(some ⟨b25, 0, none⟩), 2, 2, rfl, rfl⟩, hs.pk (.c d0 .n)⟩

/-! shutter/input.Write -/
def input_Write.l1.m (K : Nat) (x0 : api_In) (x1 : Int) : Nat → (List Int) → Int → Option ((List Int))
  | 0, _, _ => none
  | k + 1, x45, x50 => (letJ (α := Bool → Option ((List Int))) (fun (x60 : Bool) => (bif x60 then (if 0 ≤ x50 then (if x50 < (x0.Fields.length : Int) then (letJ (α := Bool → Option ((List Int))) (fun (x74 : Bool) => (bif x74 then ((app x45 [17]).bind fun l78 => ((input_place.m K ((at_ x0.Fields x50).Addr) x1).bind fun t83 => ((app l78 t83).bind fun l88 => ((app l88 ((at_ x0.Fields x50).Text)).bind fun l93 => (input_Write.l1.m K x0 x1 k l93 (w64 (x50 + 1))))))) else ((app x45 ((at_ x0.Fields x50).Text)).bind fun l98 => (input_Write.l1.m K x0 x1 k l98 (w64 (x50 + 1)))))) fun (j75 : Bool → Option ((List Int))) => (if (at_ x0.Fields x50).Addr = (-1) then (j75 false) else (j75 true))) else none) else none) else (some (x45)))) fun (j61 : Bool → Option ((List Int))) => (if x50 < (x0.Fields.length : Int) then (j61 true) else (j61 false)))
def input_Write.m (K : Nat) (x0 : api_In) (x1 : Int) : Option ((List Int) × GoErr) :=
  ((input_Right.m K x0 x1).bind fun t26 => (if t26 = GoErr.nil then ((attr_Bare.m x0.Aid).bind fun t34 => bif t34 then (some ([x0.Aid], GoErr.nil)) else ((input_place.m K x0.Cursor x1).bind fun t35 => ((app [x0.Aid] t35).bind fun l40 => ((input_Write.l1.m K x0 x1 K l40 0).bind fun x52 => (if (x52.length : Int) > 8192 then (some ([], (GoErr.no 6))) else (some (x52, GoErr.nil))))))) else (some ([], t26))))

theorem input_Write.calls {B I : Gh} {h : Heap} {K : Nat} {x0 : api_In} {x1 : Int} {a21 : Option Addr} {p22 : Nat} {n23 : Nat} {r : ((List Int) × GoErr)} (H : input_Write.m K x0 x1 = some r)  :
    Fc Tryz.prog 27 #[.agg #[.int .u8 x0.Aid, .int .i64 x0.Cursor, .slice a21 n23 p22], .int .i64 x1] [rR t_api_Entry .b a21 p22 n23 x0.Fields] B I h (fun v L => ∃ (a106 : Option Addr) (p107 : Nat) (n108 : Nat) (v110 : Value), v = .tuple #[.slice a106 n108 p107, v110] ∧ L = [rO (tInt .u8) .i a106 p107 n108 r.1, rE .i v110 r.2]) := by
 refine fc_of fun E hs => ?_
 unfold input_Write.m at H
 obtain rfl := hs.nR d0
 refine fn_of (args := [.agg #[.int .u8 x0.Aid, .int .i64 x0.Cursor, .slice a21 x0.Fields.length p22], .int .i64 x1]) (rs := [.tmp 4, .tmp 5]) (N := 57) Tryz.func27 rfl rfl rfl rfl ?_
 refine st 2 [] (k_op (nB hs [.int .u8 x0.Aid, .int .i64 x0.Cursor, .slice a21 x0.Fields.length p22] ?_))
 intro b25 h hs
 refine st 6 [] (k_op (lN (hs.bl d0) 0 3 ?_))
 obtain ⟨hk, bk⟩ := hs.call tk0 (.c (qB d1) .n)
 refine st 1 [] (k_call H (fun _ m => input_Right.calls m hk) ?_)
 rintro t26 v27 h H ⟨I, _, ⟨_, rfl, rfl⟩, hk⟩
 replace hs := bk hk ct1 rfl
 rcases (hs.er d0).cases with ⟨c29, rfl⟩ | ⟨c29, t30, u31, rfl⟩
 ·rw [if_pos c29] at H
  refine st 12 [false] (k_op (lB (hs.bl d1) 0 rfl ?_))
  refine k_op (nS (e := 5) hs .i (tInt .u8) ([x0.Aid] : List Int) [.int .u8 x0.Aid] 1 (.int .u8 0) (Reps.int (I := (Cl.G .i E.B I)) (k := .u8) (l := [x0.Aid])) ?_)
  intro b32 h hs
  refine st 6 [] (k_op (lB (hs.bl d2) 0 rfl ?_))
  refine k_call H (fun _ m => attr_Bare.calls m) ?_
  rintro t34 _ _ H ⟨rfl, rfl⟩
  cases t34
  ·rw [cond_false] at H
   refine st 7 [false] (k_op (lB (hs.bl d2) 1 rfl ?_))
   obtain ⟨hk, bk⟩ := hs.call tk0 .n
   refine st 1 [] (k_call H (fun _ m => input_place.calls m hk) ?_)
   rintro t35 _ h H ⟨I, _, ⟨a36, p37, n38, rfl, rfl⟩, hk⟩
   replace hs := bk hk ct1 rfl
   obtain rfl := hs.nR d0
   replace hs := (hs.f d1)
   obtain ⟨l40, m41, H⟩ := bind_some H
   refine k_op (aO (e := 5) (bytes := 1) hs (hs.sR d1) m41 ?_)
   intro a42 p43 h hs
   refine st 6 [] (k_op (lB (hs.bl d3) 2 rfl ?_))
   refine st 4 [] ?_
   obtain ⟨s51, m58, HR57⟩ := bind_some H
   refine k_loop 0 (fun k' ρ h => ∃ (x45 : List Int) (x50 : Int) (a46 : Option Addr) (p47 : Nat) (n48 : Nat) (I : Gh), input_Write.l1.m K x0 x1 k' x45 x50 = some s51 ∧ Fits [(1, .int .i64 x1), (7, .slice a46 n48 p47), (30, .slice a21 x0.Fields.length p22), (31, .int .i64 (x0.Fields.length : Int)), (32, .int .i64 x50)] ρ ∧ St E [rO (tInt .u8) .i a46 p47 n48 x45, rR t_api_Entry .b a21 p22 x0.Fields.length x0.Fields] I h) (fun ρ h => ∃ (x52 : List Int) (a53 : Option Addr) (p54 : Nat) (n55 : Nat) (I : Gh), x52 = s51 ∧ Fits [(7, .slice a53 n55 p54)] ρ ∧ St E [rO (tInt .u8) .i a53 p54 n55 x52] I h) K ⟨l40, 0, a42, p43, l40.length, I, m58, ⟨by kernel_rfl, by kernel_rfl, by kernel_rfl, by kernel_rfl, by kernel_rfl, trivial⟩, hs.pk (.c d0 (.c d3 .n))⟩ ?_ rfl ?_
   ·clear HR57 m58 H
    rintro k' ρ h ⟨x45, x50, a46, p47, n48, I, H, hf, hs⟩
    cases k' with
    | zero => cases H
    | succ k =>
     rw [input_Write.l1.m] at H
     refine k_fits _ hf ?_ rfl
     obtain rfl := hs.nO d0
     refine st 1 [] ?_
     obtain ⟨j61, e104, H⟩ := letJ_some H
     refine k_join (fun ρ h => ∃ (x60 : Bool) (I : Gh), j61 x60 = some s51 ∧ Fits [(1, .int .i64 x1), (7, .slice a46 x45.length p47), (30, .slice a21 x0.Fields.length p22), (31, .int .i64 (x0.Fields.length : Int)), (32, .int .i64 x50), (33, .bool x60)] ρ ∧ St E [rO (tInt .u8) .i a46 p47 x45.length x45, rR t_api_Entry .b a21 p22 x0.Fields.length x0.Fields] I h) ?_ ?_
     ·refine st 1 [] (k_ite H (fun c59 H => ?_) (fun c59 H => ?_))
      ·refine st 1 [] ?_
       exact k_end ⟨true, I, H, ⟨by kernel_rfl, by kernel_rfl, by kernel_rfl, by kernel_rfl, by kernel_rfl, by kernel_rfl, trivial⟩, hs.pk (.c d0 (.c d0 .n))⟩
      ·refine st 1 [] ?_
       exact k_end ⟨false, I, H, ⟨by kernel_rfl, by kernel_rfl, by kernel_rfl, by kernel_rfl, by kernel_rfl, by kernel_rfl, trivial⟩, hs.pk (.c d0 (.c d0 .n))⟩
     ·clear H
      rintro ρ h ⟨x60, I, H, hf, hs⟩
      refine k_fits _ hf ?_ rfl
      subst e104
      try dsimp only at H
      cases x60
      ·rw [cond_false] at H
       refine st 2 [false] ?_
       refine k_out rfl ?_
       obtain rfl := Option.some.inj H
       exact xE ⟨x45, a46, p47, x45.length, I, rfl, ⟨by kernel_rfl, trivial⟩, hs.pk (.c d0 .n)⟩
      ·rw [cond_true] at H
       obtain ⟨c62, H⟩ := guard_pos H
       obtain ⟨c63, H⟩ := guard_pos H
       refine st 7 [true] (k_val (elemPtr a21 (x50.toNat * 2)) (pI (e := 67) (ik := .i64) (hs.sR d1) c62 c63) ?_)
       obtain ⟨y65, g64, q66⟩ := (hs.sR d1).toSl.seg c62 c63
       obtain ⟨a67, p68, n69, rfl, q71⟩ := t_api_Entry.open_ q66
       obtain rfl := q71.2
       replace hs := hs.pR q71
       refine k_op (lG g64 ?_)
       refine k_op (nA hs [.int .i64 0, .slice none 0 0] (.agg #[.int .i64 0, .slice none 0 0]) ?_)
       intro b72 h hs
       refine k_op (sN hs 0 [.int .i64 ((at_ x0.Fields x50).Addr), .slice a67 (((at_ x0.Fields x50).Text).length) p68] [.int .i64 ((at_ x0.Fields x50).Addr), .slice a67 (((at_ x0.Fields x50).Text).length) p68] (ones_of rfl) ?_)
       intro h hs
       refine st 3 [] ?_
       obtain ⟨j75, e103, H⟩ := letJ_some H
       refine k_join (fun ρ h => ∃ (x74 : Bool) (I : Gh), j75 x74 = some s51 ∧ Fits [(1, .int .i64 x1), (7, .slice a46 x45.length p47), (9, .pointer (some ⟨b72, 0, none⟩)), (30, .slice a21 x0.Fields.length p22), (31, .int .i64 (x0.Fields.length : Int)), (32, .int .i64 x50), (38, .bool x74)] ρ ∧ St E [rO (tInt .u8) .i a46 p47 x45.length x45, rR t_api_Entry .b a21 p22 x0.Fields.length x0.Fields, rR (tInt .u8) .b a67 p68 (((at_ x0.Fields x50).Text).length) ((at_ x0.Fields x50).Text), rB b72 [.int .i64 ((at_ x0.Fields x50).Addr), .slice a67 (((at_ x0.Fields x50).Text).length) p68] 67] I h) ?_ ?_
       ·refine st 2 [] (k_op (lB (hs.bl d0) 0 rfl ?_))
        refine k_iteN H (fun c73 H => ?_) (fun c73 H => ?_)
        ·refine st 1 [] ?_
         exact k_end ⟨false, I, H, ⟨by kernel_rfl, by kernel_rfl, by kernel_rfl, by kernel_rfl, by kernel_rfl, by kernel_rfl, by kernel_rfl, trivial⟩, hs.pk (.c d2 (.c d2 (.c d1 (.c d0 .n))))⟩
        ·refine st 1 [] ?_
         exact k_end ⟨true, I, H, ⟨by kernel_rfl, by kernel_rfl, by kernel_rfl, by kernel_rfl, by kernel_rfl, by kernel_rfl, by kernel_rfl, trivial⟩, hs.pk (.c d2 (.c d2 (.c d1 (.c d0 .n))))⟩
       ·clear H
        rintro ρ h ⟨x74, I, H, hf, hs⟩
        refine k_fits _ hf ?_ rfl
        subst e103
        try dsimp only at H
        cases x74
        ·rw [cond_false] at H
         refine st 5 [false] (k_op (lB (hs.bl d3) 1 rfl ?_))
         obtain ⟨l98, m99, H⟩ := bind_some H
         refine k_op (aO (e := 5) (bytes := 1) hs ((hs.sR d2).flat flat_int) m99 ?_)
         intro a100 p101 h hs
         refine st 7 [] ?_
         exact k_endL ⟨k, Nat.lt_succ_self _, l98, (w64 (x50 + 1)), a100, p101, l98.length, I, H, ⟨by kernel_rfl, by kernel_rfl, by kernel_rfl, by kernel_rfl, by kernel_rfl, trivial⟩, hs.pk (.c d0 (.c d0 .n))⟩
        ·rw [cond_true] at H
         refine st 1 [true] ?_
         obtain ⟨hs0, bk0⟩ := hs.call tk1 (.c (qL d2) .n)
         have hs := hs0
         refine k_regD hs0 6 ?_
         refine aRun [0, 3] 7 hs.keep ?_
         refine aL 4 rfl hs.keep (ll hs0 d1 (n := 0) rfl) (nmL hs0 d1) ?_
         refine aRun [5] 5 hs.keep ?_
         refine aO1 1 rfl (nS (e := 5) hs .i (tInt .u8) ([17] : List Int) [.int .u8 17] 1 (.int .u8 0) (Reps.int (I := (Cl.G .i E.B I)) (k := .u8) (l := [17])) ?_)
         intro b76 h hs
         refine ⟨hs.keep, ?_⟩
         replace hs := (hs.f d1)
         obtain ⟨l78, m79, H⟩ := bind_some H
         refine aO1 2 rfl (aO (e := 5) (bytes := 1) hs (hs.sO d1) m79 ?_)
         intro a80 p81 h hs
         refine ⟨hs.keep, ?_⟩
         replace hs := hs.pk (.c d0 (.c d0 .n))
         replace hs := bk0 hs ct2 rfl
         obtain ⟨hk, bk⟩ := hs.call tk0 .n
         refine aOL 6 rfl (o_call H (fun _ m => input_place.calls m hk) ?_)
         rintro t83 _ h H ⟨I, _, ⟨a84, p85, n86, rfl, rfl⟩, hk⟩
         replace hs := bk hk ct1 rfl
         obtain rfl := hs.nR d0
         replace hs := (hs.f d1)
         obtain ⟨l88, m89, H⟩ := bind_some H
         refine aOL 7 rfl (aO (e := 5) (bytes := 1) hs (hs.sR d1) m89 ?_)
         intro a90 p91 h hs
         refine aOL 8 rfl (owp_pure (.slice a90 l88.length p91) (by kernel_rfl) ?_)
         refine aEnd ?_
         refine st 3 [] (k_op (lB (hs.bl d5) 1 rfl ?_))
         obtain ⟨l93, m94, H⟩ := bind_some H
         refine k_op (aO (e := 5) (bytes := 1) hs ((hs.sR d4).flat flat_int) m94 ?_)
         intro a95 p96 h hs
         refine st 7 [] ?_
         exact k_endL ⟨k, Nat.lt_succ_self _, l93, (w64 (x50 + 1)), a95, p96, l93.length, I, H, ⟨by kernel_rfl, by kernel_rfl, by kernel_rfl, by kernel_rfl, by kernel_rfl, trivial⟩, hs.pk (.c d0 (.c d2 .n))⟩
   ·rintro ρ h ⟨x52, a53, p54, n55, I, rfl, hf, hs⟩
    have H := HR57
    try dsimp only at H
    refine k_fits _ hf ?_ rfl
    obtain rfl := hs.nO d0
    refine st 5 [] (k_ite H (fun c105 H => ?_) (fun c105 H => ?_))
    ·refine st 8 [true] ?_
     refine k_retQ ?_
     obtain rfl := Option.some.inj H
     exact ⟨_, by kernel_rfl, I, _, ⟨none, 0, 0, (.iface 71 (.int .i64 6)), rfl, rfl⟩, hs.pk (.f imON (.f imEC .n))⟩
    ·refine st 9 [false] ?_
     refine k_retQ ?_
     obtain rfl := Option.some.inj H
     exact ⟨_, by kernel_rfl, I, _, ⟨a53, p54, x52.length, (.nilIface), rfl, rfl⟩, hs.pk (.c d0 (.f imEN .n))⟩
  ·rw [cond_true] at H
   refine st 8 [true] ?_
   refine k_retQ ?_
   obtain rfl := Option.some.inj H
   exact ⟨_, by kernel_rfl, I, _, ⟨(some ⟨b32, 0, none⟩), 1, 1, (.nilIface), rfl, rfl⟩, hs.pk (.c d0 (.f imEN .n))⟩
 ·rw [if_neg c29] at H
  refine st 14 [true] ?_
  refine k_retQ ?_
  obtain rfl := Option.some.inj H
  exact ⟨_, by kernel_rfl, I, _, ⟨none, 0, 0, ((.iface t30 u31)), rfl, rfl⟩, hs.pk (.f imON (.c d0 .n))⟩

/-! shutter/grid.Size -/
def grid_Size.m (x0 : api_Screen) : Option Int :=
  (some (x0.Cells.length : Int))

theorem grid_Size.calls {B I : Gh} {h : Heap} {x0 : api_Screen} {a21 : Option Addr} {p22 : Nat} {n23 : Nat} {r : Int} (H : grid_Size.m x0 = some r)  :
    Fc Tryz.prog 28 #[.agg #[.int .i64 x0.Rows, .int .i64 x0.Cols, .slice a21 n23 p22, .int .i64 x0.Cursor, .bool x0.Locked, .bool x0.Insert]] [rR t_api_Cell .b a21 p22 n23 x0.Cells] B I h (fun v L => v = .int .i64 r ∧ L = []) := by
 refine fc_of fun E hs => ?_
 unfold grid_Size.m at H
 obtain rfl := hs.nR d0
 refine fn_of (args := [.agg #[.int .i64 x0.Rows, .int .i64 x0.Cols, .slice a21 x0.Cells.length p22, .int .i64 x0.Cursor, .bool x0.Locked, .bool x0.Insert]]) (rs := [.tmp 2]) (N := 6) Tryz.func28 rfl rfl rfl rfl ?_
 refine st 2 [] (k_op (nB hs [.int .i64 x0.Rows, .int .i64 x0.Cols, .slice a21 x0.Cells.length p22, .int .i64 x0.Cursor, .bool x0.Locked, .bool x0.Insert] ?_))
 intro b25 h hs
 refine st 5 [] (k_op (lB (hs.bl d0) 2 rfl ?_))
 refine st 3 [] ?_
 refine k_retQ ?_
 obtain rfl := Option.some.inj H
 exact ⟨_, by kernel_rfl, I, _, ⟨rfl, rfl⟩, hs.pk .n⟩

/-! shutter/stream.spot -/
def stream_spot.m (x0 : Int) (x1 : GoErr) : Option GoErr :=
  (some (GoErr.spot x0 x1))

theorem stream_spot.calls {B I : Gh} {h : Heap} {x0 : Int} {x1 : GoErr} {v21 : Value} {r : GoErr} (H : stream_spot.m x0 x1 = some r)  :
    Fc Tryz.prog 60 #[.int .i64 x0, v21] [rE .i v21 x1] B I h (fun v L => ∃ (v29 : Value), v = v29 ∧ L = [rE .i v29 r]) := by
 refine fc_of fun E hs => ?_
 unfold stream_spot.m at H
 refine fn_of (args := [.int .i64 x0, v21]) (rs := [.tmp 4]) (N := 10) Tryz.func60 rfl rfl rfl rfl ?_
 rcases (hs.er d0).cases with ⟨c23, rfl⟩ | ⟨c23, t24, u25, rfl⟩
 ·refine st 9 [] (k_op (nB hs [.int .i64 x0, .nilIface] ?_))
  intro b26 h hs
  have q27 := (hs.er d1)
  obtain ⟨I, hs⟩ := hs.fS q27
  refine st 3 [] ?_
  refine k_retQ ?_
  obtain rfl := Option.some.inj H
  exact ⟨_, by kernel_rfl, I, _, ⟨((.iface 105 (.pointer (some ⟨b26, 0, none⟩)))), rfl, rfl⟩, hs.pk (.c d0 .n)⟩
 ·refine st 9 [] (k_op (nB hs [.int .i64 x0, (.iface t24 u25)] ?_))
  intro b26 h hs
  have q27 := (hs.er d1)
  obtain ⟨I, hs⟩ := hs.fS q27
  refine st 3 [] ?_
  refine k_retQ ?_
  obtain rfl := Option.some.inj H
  exact ⟨_, by kernel_rfl, I, _, ⟨((.iface 105 (.pointer (some ⟨b26, 0, none⟩)))), rfl, rfl⟩, hs.pk (.c d0 .n)⟩

/-! shutter/order.has -/
def order_has.m (x0 : Int) : Option (Bool × Bool × Bool × Bool) :=
  (if x0 = 1 then (some (true, false, false, false)) else (if x0 = 2 then (some (false, true, false, false)) else (if x0 = 6 then (some (false, false, true, true)) else (if x0 = 3 then (some (false, false, true, false)) else (if x0 = 7 then (some (false, false, true, false)) else (some (false, false, false, false)))))))

theorem order_has.calls {x0 : Int} {h : Heap} {r : (Bool × Bool × Bool × Bool)} (H : order_has.m x0 = some r)   :
    Ret Tryz.prog 102 #[.int .i64 x0] h (fun v h' => .tuple #[.bool r.1, .bool r.2.1, .bool r.2.2.1, .bool r.2.2.2] = v ∧ h' = h) := by
 unfold order_has.m at H
 refine fn_of (args := [.int .i64 x0]) (rs := [.tmp 2, .tmp 3, .tmp 4, .tmp 5]) (N := 20) Tryz.func102 rfl rfl rfl rfl ?_
 refine st 25 [] (k_ite H (fun c21 H => ?_) (fun c21 H => ?_))
 ·refine st 20 [true] ?_
  refine k_retQ ?_
  obtain rfl := Option.some.inj H
  exact ⟨_, by kernel_rfl, rfl, rfl⟩
 ·refine st 7 [false] (k_ite H (fun c22 H => ?_) (fun c22 H => ?_))
  ·refine st 20 [true] ?_
   refine k_retQ ?_
   obtain rfl := Option.some.inj H
   exact ⟨_, by kernel_rfl, rfl, rfl⟩
  ·refine st 7 [false] (k_ite H (fun c23 H => ?_) (fun c23 H => ?_))
   ·refine st 24 [true] ?_
    refine k_retQ ?_
    obtain rfl := Option.some.inj H
    exact ⟨_, by kernel_rfl, rfl, rfl⟩
   ·refine st 7 [false] (k_ite H (fun c24 H => ?_) (fun c24 H => ?_))
    ·refine st 22 [true, true] ?_
     refine k_retQ ?_
     obtain rfl := Option.some.inj H
     exact ⟨_, by kernel_rfl, rfl, rfl⟩
    ·refine st 4 [false] (k_ite H (fun c25 H => ?_) (fun c25 H => ?_))
     ·refine st 20 [true] ?_
      refine k_retQ ?_
      obtain rfl := Option.some.inj H
      exact ⟨_, by kernel_rfl, rfl, rfl⟩
     ·refine st 16 [false] ?_
      refine k_retQ ?_
      obtain rfl := Option.some.inj H
      exact ⟨_, by kernel_rfl, rfl, rfl⟩

/-! shutter/attr.sum -/
def attr_sum.l1.m (K : Nat) (x0 : (List Anon_is_n)) : Nat → Int → Int → Option (Int)
  | 0, _, _ => none
  | k + 1, x25, x26 => (letJ (α := Bool → Option (Int)) (fun (x32 : Bool) => (bif x32 then (if 0 ≤ x26 then (if x26 < (x0.length : Int) then (bif (at_ x0 x26).is' then (attr_sum.l1.m K x0 k (w64 (x25 + ((at_ x0 x26).n'))) (w64 (x26 + 1))) else (attr_sum.l1.m K x0 k x25 (w64 (x26 + 1)))) else none) else none) else (some (x25)))) fun (j33 : Bool → Option (Int)) => (if x26 < (x0.length : Int) then (j33 true) else (j33 false)))
def attr_sum.m (K : Nat) (x0 : (List Anon_is_n)) : Option Int :=
  ((attr_sum.l1.m K x0 K 0 0).bind fun x28 => (some x28))

theorem attr_sum.calls {B I : Gh} {h : Heap} {K : Nat} {x0 : (List Anon_is_n)} {a21 : Option Addr} {p22 : Nat} {n23 : Nat} {r : Int} (H : attr_sum.m K x0 = some r)  :
    Fc Tryz.prog 113 #[.slice a21 n23 p22] [rR t_Anon_is_n .b a21 p22 n23 x0] B I h (fun v L => v = .int .i64 r ∧ L = []) := by
 refine fc_of fun E hs => ?_
 unfold attr_sum.m at H
 obtain rfl := hs.nR d0
 refine fn_of (args := [.slice a21 x0.length p22]) (rs := [.tmp 2]) (N := 20) Tryz.func113 rfl rfl rfl rfl ?_
 refine st 16 [] ?_
 obtain ⟨s27, m30, HR29⟩ := bind_some H
 refine k_loop 0 (fun k' ρ h => ∃ (x25 : Int) (x26 : Int) (I : Gh), attr_sum.l1.m K x0 k' x25 x26 = some s27 ∧ Fits [(3, .int .i64 x25), (6, .slice a21 x0.length p22), (7, .int .i64 (x0.length : Int)), (8, .int .i64 x26)] ρ ∧ St E [rR t_Anon_is_n .b a21 p22 x0.length x0] I h) (fun ρ h => ∃ (x28 : Int) (I : Gh), x28 = s27 ∧ Fits [(3, .int .i64 x28)] ρ ∧ St E [] I h) K ⟨0, 0, I, m30, ⟨by kernel_rfl, by kernel_rfl, by kernel_rfl, by kernel_rfl, trivial⟩, hs.pk (.c d0 .n)⟩ ?_ rfl ?_
 ·clear HR29 m30 H
  rintro k' ρ h ⟨x25, x26, I, H, hf, hs⟩
  cases k' with
  | zero => cases H
  | succ k =>
   rw [attr_sum.l1.m] at H
   refine k_fits _ hf ?_ rfl
   refine st 1 [] ?_
   obtain ⟨j33, e41, H⟩ := letJ_some H
   refine k_join (fun ρ h => ∃ (x32 : Bool) (I : Gh), j33 x32 = some s27 ∧ Fits [(3, .int .i64 x25), (6, .slice a21 x0.length p22), (7, .int .i64 (x0.length : Int)), (8, .int .i64 x26), (9, .bool x32)] ρ ∧ St E [rR t_Anon_is_n .b a21 p22 x0.length x0] I h) ?_ ?_
   ·refine st 1 [] (k_ite H (fun c31 H => ?_) (fun c31 H => ?_))
    ·refine st 1 [] ?_
     exact k_end ⟨true, I, H, ⟨by kernel_rfl, by kernel_rfl, by kernel_rfl, by kernel_rfl, by kernel_rfl, trivial⟩, hs.pk (.c d0 .n)⟩
    ·refine st 1 [] ?_
     exact k_end ⟨false, I, H, ⟨by kernel_rfl, by kernel_rfl, by kernel_rfl, by kernel_rfl, by kernel_rfl, trivial⟩, hs.pk (.c d0 .n)⟩
   ·clear H
    rintro ρ h ⟨x32, I, H, hf, hs⟩
    refine k_fits _ hf ?_ rfl
    subst e41
    try dsimp only at H
    cases x32
    ·rw [cond_false] at H
     refine st 2 [false] ?_
     refine k_out rfl ?_
     obtain rfl := Option.some.inj H
     exact xE ⟨x25, I, rfl, ⟨by kernel_rfl, trivial⟩, hs.pk .n⟩
    ·rw [cond_true] at H
     obtain ⟨c34, H⟩ := guard_pos H
     obtain ⟨c35, H⟩ := guard_pos H
     refine st 7 [true] (k_val (elemPtr a21 (x26.toNat * 2)) (pI (e := 166) (ik := .i64) (hs.sR d0) c34 c35) ?_)
     obtain ⟨y37, g36, q38⟩ := (hs.sR d0).toSl.seg c34 c35
     obtain rfl := t_Anon_is_n.open_ q38
     refine k_op (lG g36 ?_)
     refine k_op (nA hs [.bool false, .int .i64 0] (.agg #[.bool false, .int .i64 0]) ?_)
     intro b39 h hs
     refine k_op (sN hs 0 [.bool ((at_ x0 x26).is'), .int .i64 ((at_ x0 x26).n')] [.bool ((at_ x0 x26).is'), .int .i64 ((at_ x0 x26).n')] (ones_of rfl) ?_)
     intro h hs
     refine st 4 [] (k_op (lB (hs.bl d0) 0 rfl ?_))
     refine k_spl H (fun c40 H => ?_) (fun c40 H => ?_)
     ·refine st 5 [true] (k_op (lB (hs.bl d0) 1 rfl ?_))
      refine st 8 [] ?_
      exact k_endL ⟨k, Nat.lt_succ_self _, (w64 (x25 + ((at_ x0 x26).n'))), (w64 (x26 + 1)), I, H, ⟨by kernel_rfl, by kernel_rfl, by kernel_rfl, by kernel_rfl, trivial⟩, hs.pk (.c d1 .n)⟩
     ·refine st 8 [false] ?_
      exact k_endL ⟨k, Nat.lt_succ_self _, x25, (w64 (x26 + 1)), I, H, ⟨by kernel_rfl, by kernel_rfl, by kernel_rfl, by kernel_rfl, trivial⟩, hs.pk (.c d1 .n)⟩
 ·rintro ρ h ⟨x28, I, rfl, hf, hs⟩
  have H := HR29
  try dsimp only at H
  refine k_fits _ hf ?_ rfl
  refine st 5 [] ?_
  refine k_retQ ?_
  obtain rfl := Option.some.inj H
  exact ⟨_, by kernel_rfl, I, _, ⟨rfl, rfl⟩, hs.pk .n⟩

/-! shutter/attr.bit -/
def attr_bit.m (x0 : Bool) (x1 : Int) : Option Anon_is_n :=
  (some (⟨x0, x1⟩ : Anon_is_n))

theorem attr_bit.calls {B I : Gh} {h : Heap} {x0 : Bool} {x1 : Int} {r : Anon_is_n} (H : attr_bit.m x0 x1 = some r)  :
    Fc Tryz.prog 114 #[.bool x0, .int .i64 x1] [] B I h (fun v L => v = .agg #[.bool r.is', .int .i64 r.n'] ∧ L = []) := by
 refine fc_of fun E hs => ?_
 unfold attr_bit.m at H
 refine fn_of2 (args := [.bool x0, .int .i64 x1]) (rs := [.cell 4 166]) (N := 8) Tryz.func114 rfl rfl rfl rfl ?_
 refine st 2 [] (k_op (nA hs [.bool false, .int .i64 0] (.agg #[.bool false, .int .i64 0]) ?_))
 intro b21 h hs
 refine st 6 [] (k_op (sN hs 0 [.bool x0, .int .i64 x1] [.bool x0, .int .i64 x1] (ones_of rfl) ?_))
 intro h hs
 refine st 1 [] ?_
 refine k_retQ ?_
 obtain rfl := Option.some.inj H
 exact ⟨[.agg #[.bool x0, .int .i64 x1]], (.cons (.agg (by kernel_rfl) (by kernel_rfl) (by kernel_rfl) ((hs.bl d0).seg_ 0 2 (Nat.le_of_ble_eq_true rfl))) .nil), I, _, ⟨rfl, rfl⟩, hs.pk .n⟩

/-! shutter/attr.Put -/
def attr_Put.m (K : Nat) (x0 : api_Attr) : Option (Int × GoErr) :=
  (if x0.Show < 0 then (some (0, (GoErr.no 1))) else (if x0.Show > 3 then (some (0, (GoErr.no 1))) else ((attr_bit.m x0.Protected 32).bind fun t24 => ((attr_bit.m x0.Numeric 16).bind fun t25 => ((attr_bit.m x0.Modified 1).bind fun t26 => ((attr_sum.m K [t24, t25, t26]).bind fun t29 => ((six_Put.m (w64 (t29 + (w64 (4 * x0.Show))))).bind fun t30 => (some (t30.1, t30.2)))))))))

theorem attr_Put.calls {B I : Gh} {h : Heap} {K : Nat} {x0 : api_Attr} {r : (Int × GoErr)} (H : attr_Put.m K x0 = some r)  :
    Fc Tryz.prog 103 #[.agg #[.bool x0.Protected, .bool x0.Numeric, .int .i64 x0.Show, .bool x0.Modified]] [] B I h (fun v L => ∃ (v33 : Value), v = .tuple #[.int .u8 r.1, v33] ∧ L = [rE .i v33 r.2]) := by
 refine fc_of fun E hs => ?_
 unfold attr_Put.m at H
 refine fn_of (args := [.agg #[.bool x0.Protected, .bool x0.Numeric, .int .i64 x0.Show, .bool x0.Modified]]) (rs := [.tmp 2, .tmp 3]) (N := 31) Tryz.func103 rfl rfl rfl rfl ?_
 refine st 2 [] (k_op (nB hs [.bool x0.Protected, .bool x0.Numeric, .int .i64 x0.Show, .bool x0.Modified] ?_))
 intro b21 h hs
 refine st 7 [] (k_op (lB (hs.bl d0) 2 rfl ?_))
 refine k_ite H (fun c22 H => ?_) (fun c22 H => ?_)
 ·refine st 13 [true] ?_
  refine k_retQ ?_
  obtain rfl := Option.some.inj H
  exact ⟨_, by kernel_rfl, I, _, ⟨(.iface 71 (.int .i64 1)), rfl, rfl⟩, hs.pk (.f imEC .n)⟩
 ·refine st 2 [] (k_op (lB (hs.bl d0) 2 rfl ?_))
  refine k_ite H (fun c23 H => ?_) (fun c23 H => ?_)
  ·refine st 9 [true] ?_
   refine k_retQ ?_
   obtain rfl := Option.some.inj H
   exact ⟨_, by kernel_rfl, I, _, ⟨(.iface 71 (.int .i64 1)), rfl, rfl⟩, hs.pk (.f imEC .n)⟩
  ·refine st 5 [false] ?_
   obtain ⟨hs0, bk0⟩ := hs.call tk0 (.c (qL d0) .n)
   have hs := hs0
   refine k_regD hs0 20 ?_
   refine aRun [0] 19 hs.keep ?_
   refine aL 1 rfl hs.keep (ll hs0 d0 (n := 0) rfl) (nmL hs0 d0) ?_
   refine aRun [3] 17 hs.keep ?_
   refine aL 4 rfl hs.keep (ll hs0 d0 (n := 1) rfl) (nmL hs0 d0) ?_
   refine aRun [6] 15 hs.keep ?_
   refine aL 7 rfl hs.keep (ll hs0 d0 (n := 3) rfl) (nmL hs0 d0) ?_
   refine aRun [11] 13 hs.keep ?_
   refine aL 12 rfl hs.keep (ll hs0 d0 (n := 2) rfl) (nmL hs0 d0) ?_
   refine aRun [13] 11 hs.keep ?_
   obtain ⟨hk, bk⟩ := hs.call tk0 .n
   refine aO1 2 rfl (o_call H (fun _ m => attr_bit.calls m hk) ?_)
   rintro t24 _ h H ⟨I, _, ⟨rfl, rfl⟩, hk⟩
   replace hs := bk hk ct0 rfl
   refine ⟨hs.keep, ?_⟩
   obtain ⟨hk, bk⟩ := hs.call tk0 .n
   refine aO1 5 rfl (o_call H (fun _ m => attr_bit.calls m hk) ?_)
   rintro t25 _ h H ⟨I, _, ⟨rfl, rfl⟩, hk⟩
   replace hs := bk hk ct0 rfl
   refine ⟨hs.keep, ?_⟩
   obtain ⟨hk, bk⟩ := hs.call tk0 .n
   refine aO1 8 rfl (o_call H (fun _ m => attr_bit.calls m hk) ?_)
   rintro t26 _ h H ⟨I, _, ⟨rfl, rfl⟩, hk⟩
   replace hs := bk hk ct0 rfl
   refine ⟨hs.keep, ?_⟩
   refine aO1 9 rfl (nS (e := 166) hs .i t_Anon_is_n ([t24, t25, t26] : List Anon_is_n) [.bool t24.is', .int .i64 t24.n', .bool t25.is', .int .i64 t25.n', .bool t26.is', .int .i64 t26.n'] 2 (.agg #[.bool false, .int .i64 0]) (Reps.cons (T := t_Anon_is_n) (c := [.bool t24.is', .int .i64 t24.n']) (x := t24) rfl (Reps.cons (T := t_Anon_is_n) (c := [.bool t25.is', .int .i64 t25.n']) (x := t25) rfl (Reps.cons (T := t_Anon_is_n) (c := [.bool t26.is', .int .i64 t26.n']) (x := t26) rfl (.nil : Reps t_Anon_is_n (Cl.G .i E.B I) h [] [])))) ?_)
   intro b27 h hs
   refine ⟨hs.keep, ?_⟩
   obtain ⟨hk, bk⟩ := hs.call tk0 (.c (qO d0) .n)
   refine aO1 10 rfl (o_call H (fun _ m => attr_sum.calls m hk) ?_)
   rintro t29 _ h H ⟨I, _, ⟨rfl, rfl⟩, hk⟩
   replace hs := bk hk ct0 rfl
   refine ⟨hs.keep, ?_⟩
   refine aRun [14] 5 hs.keep ?_
   obtain ⟨hk, bk⟩ := hs.call tk0 .n
   refine aO1 15 rfl (o_call H (fun _ m => six_Put.calls m hk) ?_)
   rintro t30 _ h H ⟨I, _, ⟨v31, rfl, rfl⟩, hk⟩
   replace hs := bk hk ct1 rfl
   refine ⟨hs.keep, ?_⟩
   refine aRun [16, 17, 18, 19] 0 hs.keep ?_
   replace hs := hs.pk (.c d0 (.c d0 .n))
   replace hs := bk0 hs ct2 rfl
   refine aEnd ?_
   refine k_retQ ?_
   obtain rfl := Option.some.inj H
   exact ⟨_, by kernel_rfl, I, _, ⟨(v31), rfl, rfl⟩, hs.pk (.c d0 .n)⟩

/-! shutter/order.Right$1 -/
def order_Right_1.m (x0 : Int) : Option Bool :=
  ((attr_Char.m x0).bind fun t21 => (some (!t21)))

theorem order_Right_1.calls {x0 : Int} {h : Heap} {r : Bool} (H : order_Right_1.m x0 = some r)   :
    Ret Tryz.prog 104 #[.int .u8 x0] h (fun v h' => .bool r = v ∧ h' = h) := by
 unfold order_Right_1.m at H
 refine fn_of (args := [.int .u8 x0]) (rs := [.tmp 2]) (N := 6) Tryz.func104 rfl rfl rfl rfl ?_
 refine st 7 [] (k_call H (fun _ m => attr_Char.calls m) ?_)
 rintro t21 _ _ H ⟨rfl, rfl⟩
 refine st 3 [] ?_
 refine k_retQ ?_
 obtain rfl := Option.some.inj H
 exact ⟨_, by kernel_rfl, rfl, rfl⟩

/-! slices.IndexFunc[[]byte,byte] -/
def slices_IndexFunc_bytes__order_Right_1.l1.m (K : Nat) (x0 : (List Int)) : Nat → Int → Option (Int ⊕ (Unit))
  | 0, _ => none
  | k + 1, x26 => (letJ (α := Bool → Option (Int ⊕ (Unit))) (fun (x31 : Bool) => (bif x31 then (if 0 ≤ x26 then (if x26 < (x0.length : Int) then ((order_Right_1.m (at_ x0 x26)).bind fun t35 => bif t35 then (some (Sum.inl x26)) else (slices_IndexFunc_bytes__order_Right_1.l1.m K x0 k (w64 (x26 + 1)))) else none) else none) else (some (Sum.inr ())))) fun (j32 : Bool → Option (Int ⊕ (Unit))) => (if x26 < (x0.length : Int) then (j32 true) else (j32 false)))
def slices_IndexFunc_bytes__order_Right_1.m (K : Nat) (x0 : (List Int)) : Option Int :=
  ((slices_IndexFunc_bytes__order_Right_1.l1.m K x0 K 0).bind fun s27 => match s27 with | .inl q => (some q) | .inr _ => (some (-1)))

theorem slices_IndexFunc_bytes__order_Right_1.calls {G : Gh} {K : Nat} {x0 : (List Int)} {a21 : Option Addr} {p22 : Nat} {n23 : Nat} {h : Heap} {r : Int} (H : slices_IndexFunc_bytes__order_Right_1.m K x0 = some r)  (s25 : Sn (tInt .u8) G h a21 p22 n23 x0) :
    Ret Tryz.prog 126 #[.slice a21 n23 p22, .func (.func 104) #[] #[]] h (fun v h' => .int .i64 r = v ∧ h' = h) := by
 unfold slices_IndexFunc_bytes__order_Right_1.m at H
 obtain rfl := s25.len.symm
 refine fn_of (args := [.slice a21 x0.length p22, .func (.func 104) #[] #[]]) (rs := [.tmp 4]) (N := 19) Tryz.func126 rfl rfl rfl rfl ?_
 refine st 12 [] ?_
 obtain ⟨s27, m29, HR28⟩ := bind_some H
 refine k_loop 0 (fun k' ρ h1 => ∃ (x26 : Int), slices_IndexFunc_bytes__order_Right_1.l1.m K x0 k' x26 = some s27 ∧ Fits [(0, .slice a21 x0.length p22), (1, .func (.func 104) #[] #[]), (7, .int .i64 (x0.length : Int)), (8, .int .i64 x26)] ρ ∧ h = h1) (fun ρ h1 => Sum.inr () = s27 ∧ Fits [] ρ ∧ h = h1) K ⟨0, m29, ⟨by kernel_rfl, by kernel_rfl, by kernel_rfl, by kernel_rfl, trivial⟩, rfl⟩ ?_ rfl ?_
 ·clear m29 H
  rintro k' ρ h1 ⟨x26, H, hf, rfl⟩
  cases k' with
  | zero => cases H
  | succ k =>
   rw [slices_IndexFunc_bytes__order_Right_1.l1.m] at H
   refine k_fits _ hf ?_ rfl
   refine st 1 [] ?_
   obtain ⟨j32, e36, H⟩ := letJ_some H
   refine k_join (fun ρ h1 => ∃ (x31 : Bool), j32 x31 = some s27 ∧ Fits [(0, .slice a21 x0.length p22), (1, .func (.func 104) #[] #[]), (7, .int .i64 (x0.length : Int)), (8, .int .i64 x26), (9, .bool x31)] ρ ∧ h = h1) ?_ ?_
   ·refine st 1 [] (k_ite H (fun c30 H => ?_) (fun c30 H => ?_))
    ·refine st 1 [] ?_
     exact k_end ⟨true, H, ⟨by kernel_rfl, by kernel_rfl, by kernel_rfl, by kernel_rfl, by kernel_rfl, trivial⟩, rfl⟩
    ·refine st 1 [] ?_
     exact k_end ⟨false, H, ⟨by kernel_rfl, by kernel_rfl, by kernel_rfl, by kernel_rfl, by kernel_rfl, trivial⟩, rfl⟩
   ·clear H
    rintro ρ h1 ⟨x31, H, hf, rfl⟩
    refine k_fits _ hf ?_ rfl
    subst e36
    try dsimp only at H
    cases x31
    ·rw [cond_false] at H
     refine st 2 [false] ?_
     refine k_out rfl ?_
     obtain rfl := Option.some.inj H
     exact xE ⟨rfl, trivial, rfl⟩
    ·rw [cond_true] at H
     obtain ⟨c33, H⟩ := guard_pos H
     obtain ⟨c34, H⟩ := guard_pos H
     refine st 15 [true] (k_val (elemPtr a21 (x26.toNat * 1)) (pI (e := 5) (ik := .i64) s25 c33 c34) ?_)
     refine k_op (lC (s25.cell1 c33 c34) ?_)
     refine k_call H (fun _ m => order_Right_1.calls m) ?_
     rintro t35 _ _ H ⟨rfl, rfl⟩
     cases t35
     ·rw [cond_false] at H
      refine st 8 [false] ?_
      exact k_endL ⟨k, Nat.lt_succ_self _, (w64 (x26 + 1)), H, ⟨by kernel_rfl, by kernel_rfl, by kernel_rfl, by kernel_rfl, trivial⟩, rfl⟩
     ·rw [cond_true] at H
      refine st 7 [true] ?_
      refine k_retQ (krL ?_)
      obtain rfl := Option.some.inj H
      obtain rfl := Option.some.inj HR28
      exact ⟨_, by kernel_rfl, rfl, rfl⟩
 ·rintro ρ h1 ⟨rfl, hf, rfl⟩
  have H := HR28
  try dsimp only at H
  refine k_fits _ hf ?_ rfl
  refine st 4 [] ?_
  refine k_retQ ?_
  obtain rfl := Option.some.inj H
  exact ⟨_, by kernel_rfl, rfl, rfl⟩

end Go.Proofs.YtfbcjibdgicaoaaGreatDoor.Sx
