/- Printed walks, part 2: each function's model, and that the code comes to it. -/
import Derived.Test.YtfbcjibdgicaoaaDoorProg
import Derived.Test.YtfbcjibdgicaoaaDoorV4
import Derived.Test.YtfbcjibdgicaoaaDoorV6
import Derived.Test.YtfbcjibdgicaoaaDoorV7
import Derived.Test.YtfbcjibdgicaoaaDoorV8
import Derived.Test.YtfbcjibdgicaoaaDoorG1
namespace Go.Proofs.YtfbcjibdgicaoaaDoor.Sx
open Go
set_option maxRecDepth 100000
set_option maxHeartbeats 4000000

/-! shutter/shutterref18.Image -/
def shutterref18_Image.l2.m (K : Nat) (x0 : api_Screen) : Nat → Int → (List Int) → Option (Int × (List Int))
  | 0, _, _ => none
  | k + 1, x61, x62 => (if x61 < (x0.Cells.length : Int) then (if 0 ≤ x61 then (bif (at_ x0.Cells x61).Field then (some ((x61, x62))) else ((app x62 [(at_ x0.Cells x61).Char]).bind fun l84 => (shutterref18_Image.l2.m K x0 k (w64 (x61 + 1)) l84))) else none) else (some ((x61, x62))))
def shutterref18_Image.l1.m (K : Nat) (x0 : api_Screen) : Nat → (List api_Order) → Int → Option ((List api_Order))
  | 0, _, _ => none
  | k + 1, x28, x33 => (if x33 < (x0.Cells.length : Int) then (letJ (α := Bool → Option ((List api_Order))) (fun (x48 : Bool) => (bif x48 then (if 0 ≤ x33 then ((app x28 ([(⟨2, [], ((at_ x0.Cells x33).Attr), 0, 0⟩ : api_Order)])).bind fun l56 => (shutterref18_Image.l1.m K x0 k l56 (w64 (x33 + 1)))) else none) else ((shutterref18_Image.l2.m K x0 K x33 []).bind fun (x68, x69) => ((app x28 [(⟨1, x69, (⟨false, false, 0, false⟩ : api_Attr), 0, 0⟩ : api_Order)]).bind fun l91 => (shutterref18_Image.l1.m K x0 k l91 x68))))) fun (j49 : Bool → Option ((List api_Order))) => (if 0 ≤ x33 then (bif (at_ x0.Cells x33).Field then (j49 true) else (j49 false)) else none)) else (some (x28)))
def shutterref18_Image.m (K : Nat) (x0 : api_Screen) : Option (List api_Order) :=
  ((shutterref18_Image.l1.m K x0 K ([(⟨3, [], (⟨false, false, 0, false⟩ : api_Attr), 0, 0⟩ : api_Order)]) 0).bind fun x35 => (if x0.Cursor > 0 then ((app x35 ([(⟨3, [], (⟨false, false, 0, false⟩ : api_Attr), x0.Cursor, 0⟩ : api_Order)])).bind fun l100 => ((app l100 ([(⟨4, [], (⟨false, false, 0, false⟩ : api_Attr), 0, 0⟩ : api_Order)])).bind fun l107 => (some l107))) else ((app x35 ([(⟨4, [], (⟨false, false, 0, false⟩ : api_Attr), 0, 0⟩ : api_Order)])).bind fun l114 => (some l114))))

theorem shutterref18_Image.calls {B I : Gh} {h : Heap} {K : Nat} {x0 : api_Screen} {a21 : Option Addr} {p22 : Nat} {n23 : Nat} {r : (List api_Order)} (H : shutterref18_Image.m K x0 = some r)  :
    Fc Tryd.prog 16 #[.agg #[.int .i64 x0.Rows, .int .i64 x0.Cols, .slice a21 n23 p22, .int .i64 x0.Cursor, .bool x0.Locked, .bool x0.Insert]] [rR t_api_Cell .b a21 p22 n23 x0.Cells] B I h (fun v L => ∃ (a119 : Option Addr) (p120 : Nat) (n121 : Nat), v = .slice a119 n121 p120 ∧ L = [rO t_api_Order .i a119 p120 n121 r]) := by
 refine fc_of fun E hs => ?_
 unfold shutterref18_Image.m at H
 obtain rfl := hs.nR d0
 refine fn_of (args := [.agg #[.int .i64 x0.Rows, .int .i64 x0.Cols, .slice a21 x0.Cells.length p22, .int .i64 x0.Cursor, .bool x0.Locked, .bool x0.Insert]]) (rs := [.tmp 2]) (N := 74) Tryd.func16 rfl rfl rfl rfl ?_
 refine st 2 [] (k_op (nB hs [.int .i64 x0.Rows, .int .i64 x0.Cols, .slice a21 x0.Cells.length p22, .int .i64 x0.Cursor, .bool x0.Locked, .bool x0.Insert] ?_))
 intro b25 h hs
 refine st 5 [] (k_op (nS (e := 39) hs .i t_api_Order ([(⟨3, [], (⟨false, false, 0, false⟩ : api_Attr), 0, 0⟩ : api_Order)] : List api_Order) [.int .i64 3, .slice none 0 0, .bool false, .bool false, .int .i64 0, .bool false, .int .i64 0, .int .u8 0] 8 (.agg #[.int .i64 0, .slice none 0 0, .bool false, .bool false, .int .i64 0, .bool false, .int .i64 0, .int .u8 0]) (Reps.cons (T := t_api_Order) (c := [.int .i64 3, .slice none 0 0, .bool false, .bool false, .int .i64 0, .bool false, .int .i64 0, .int .u8 0]) (x := (⟨3, [], (⟨false, false, 0, false⟩ : api_Attr), 0, 0⟩ : api_Order)) ⟨none, 0, 0, rfl, ⟨rd_nil _ _ _, rfl⟩⟩ (.nil : Reps t_api_Order (Cl.G .i E.B I) h [] [])) ?_))
 intro b26 h hs
 refine st 8 [] ?_
 obtain ⟨s34, m41, HR40⟩ := bind_some H
 refine k_loop 0 (fun k' ρ h => ∃ (x28 : List api_Order) (x33 : Int) (a29 : Option Addr) (p30 : Nat) (n31 : Nat) (I : Gh), shutterref18_Image.l1.m K x0 k' x28 x33 = some s34 ∧ Fits [(1, .pointer (some ⟨b25, 0, none⟩)), (3, .slice a29 n31 p30), (4, .int .i64 x33)] ρ ∧ St E [rO t_api_Order .i a29 p30 n31 x28, rR t_api_Cell .b a21 p22 x0.Cells.length x0.Cells, rB b25 [.int .i64 x0.Rows, .int .i64 x0.Cols, .slice a21 x0.Cells.length p22, .int .i64 x0.Cursor, .bool x0.Locked, .bool x0.Insert] 31] I h) (fun ρ h => ∃ (x35 : List api_Order) (a36 : Option Addr) (p37 : Nat) (n38 : Nat) (I : Gh), x35 = s34 ∧ Fits [(1, .pointer (some ⟨b25, 0, none⟩)), (3, .slice a36 n38 p37)] ρ ∧ St E [rO t_api_Order .i a36 p37 n38 x35, rR t_api_Cell .b a21 p22 x0.Cells.length x0.Cells, rB b25 [.int .i64 x0.Rows, .int .i64 x0.Cols, .slice a21 x0.Cells.length p22, .int .i64 x0.Cursor, .bool x0.Locked, .bool x0.Insert] 31] I h) K ⟨[(⟨3, [], (⟨false, false, 0, false⟩ : api_Attr), 0, 0⟩ : api_Order)], 0, (some ⟨b26, 0, none⟩), 1, 1, I, m41, ⟨by kernel_rfl, by kernel_rfl, by kernel_rfl, trivial⟩, hs.pk (.c d0 (.c d1 (.c d0 .n)))⟩ ?_ rfl ?_
 ·clear HR40 m41 H
  rintro k' ρ h ⟨x28, x33, a29, p30, n31, I, H, hf, hs⟩
  cases k' with
  | zero => cases H
  | succ k =>
   rw [shutterref18_Image.l1.m] at H
   refine k_fits _ hf ?_ rfl
   obtain rfl := hs.nO d0
   refine st 5 [] (k_op (lB (hs.bl d2) 2 rfl ?_))
   refine st 1 [] (k_ite H (fun c42 H => ?_) (fun c42 H => ?_))
   ·refine st 6 [true] ?_
    obtain ⟨j49, e96, H⟩ := letJ_some H
    refine k_join (fun ρ h => ∃ (x48 : Bool) (I : Gh), j49 x48 = some s34 ∧ Fits [(1, .pointer (some ⟨b25, 0, none⟩)), (3, .slice a29 x28.length p30), (4, .int .i64 x33), (18, .bool x48)] ρ ∧ St E [rO t_api_Order .i a29 p30 x28.length x28, rR t_api_Cell .b a21 p22 x0.Cells.length x0.Cells, rB b25 [.int .i64 x0.Rows, .int .i64 x0.Cols, .slice a21 x0.Cells.length p22, .int .i64 x0.Cursor, .bool x0.Locked, .bool x0.Insert] 31] I h) ?_ ?_
    ·refine st 2 [] (k_op (lB (hs.bl d2) 2 rfl ?_))
     obtain ⟨c43, H⟩ := guard_pos H
     refine st 1 [] (k_val (elemPtr a21 (x33.toNat * 6)) (pI (e := 66) (ik := .i64) (hs.sR d1) c43 c42) ?_)
     refine k_val (elemPtr a21 (x33.toNat * 6 + 0)) (pF (off := 0) (hs.sR d1) c43 c42) ?_
     obtain ⟨y45, g44, q46⟩ := (hs.sR d1).toSl.seg c43 c42
     obtain rfl := t_api_Cell.open_ q46
     refine k_op (lC (seg_cell (f := 0) g44 rfl) ?_)
     refine k_spl H (fun c47 H => ?_) (fun c47 H => ?_)
     ·refine st 1 [] ?_
      exact k_end ⟨true, I, H, ⟨by kernel_rfl, by kernel_rfl, by kernel_rfl, by kernel_rfl, trivial⟩, hs.pk (.c d0 (.c d0 (.c d0 .n)))⟩
     ·refine st 1 [] ?_
      exact k_end ⟨false, I, H, ⟨by kernel_rfl, by kernel_rfl, by kernel_rfl, by kernel_rfl, trivial⟩, hs.pk (.c d0 (.c d0 (.c d0 .n)))⟩
    ·clear H
     rintro ρ h ⟨x48, I, H, hf, hs⟩
     refine k_fits _ hf ?_ rfl
     subst e96
     try dsimp only at H
     cases x48
     ·rw [cond_false] at H
      refine st 8 [false] ?_
      obtain ⟨s67, m75, HR74⟩ := bind_some H
      refine k_loop 2 (fun k' ρ h => ∃ (x61 : Int) (x62 : List Int) (a63 : Option Addr) (p64 : Nat) (n65 : Nat) (I : Gh), shutterref18_Image.l2.m K x0 k' x61 x62 = some s67 ∧ Fits [(1, .pointer (some ⟨b25, 0, none⟩)), (3, .slice a29 x28.length p30), (4, .int .i64 x61), (5, .slice a63 n65 p64)] ρ ∧ St E [rO t_api_Order .i a29 p30 x28.length x28, rO (tInt .u8) .i a63 p64 n65 x62, rR t_api_Cell .b a21 p22 x0.Cells.length x0.Cells, rB b25 [.int .i64 x0.Rows, .int .i64 x0.Cols, .slice a21 x0.Cells.length p22, .int .i64 x0.Cursor, .bool x0.Locked, .bool x0.Insert] 31] I h) (fun ρ h => ∃ (x68 : Int) (x69 : List Int) (a70 : Option Addr) (p71 : Nat) (n72 : Nat) (I : Gh), (x68, x69) = s67 ∧ Fits [(1, .pointer (some ⟨b25, 0, none⟩)), (3, .slice a29 x28.length p30), (4, .int .i64 x68), (5, .slice a70 n72 p71)] ρ ∧ St E [rO t_api_Order .i a29 p30 x28.length x28, rO (tInt .u8) .i a70 p71 n72 x69, rR t_api_Cell .b a21 p22 x0.Cells.length x0.Cells, rB b25 [.int .i64 x0.Rows, .int .i64 x0.Cols, .slice a21 x0.Cells.length p22, .int .i64 x0.Cursor, .bool x0.Locked, .bool x0.Insert] 31] I h) K ⟨x33, [], none, 0, 0, I, m75, ⟨by kernel_rfl, by kernel_rfl, by kernel_rfl, by kernel_rfl, trivial⟩, hs.pk (.c d0 (.f imON (.c d0 (.c d0 .n))))⟩ ?_ rfl ?_
      ·clear HR74 m75 H
       rintro k' ρ h ⟨x61, x62, a63, p64, n65, I, H, hf, hs⟩
       cases k' with
       | zero => cases H
       | succ k =>
        rw [shutterref18_Image.l2.m] at H
        refine k_fits _ hf ?_ rfl
        obtain rfl := hs.nO d1
        refine st 5 [] (k_op (lB (hs.bl d3) 2 rfl ?_))
        refine st 1 [] (k_ite H (fun c76 H => ?_) (fun c76 H => ?_))
        ·refine st 2 [] (k_op (lB (hs.bl d3) 2 rfl ?_))
         obtain ⟨c77, H⟩ := guard_pos H
         refine st 1 [] (k_val (elemPtr a21 (x61.toNat * 6)) (pI (e := 66) (ik := .i64) (hs.sR d2) c77 c76) ?_)
         refine k_val (elemPtr a21 (x61.toNat * 6 + 0)) (pF (off := 0) (hs.sR d2) c77 c76) ?_
         obtain ⟨y79, g78, q80⟩ := (hs.sR d2).toSl.seg c77 c76
         obtain rfl := t_api_Cell.open_ q80
         refine k_op (lC (seg_cell (f := 0) g78 rfl) ?_)
         refine k_spl H (fun c81 H => ?_) (fun c81 H => ?_)
         ·refine st 4 [false] ?_
          refine k_out rfl ?_
          obtain rfl := Option.some.inj H
          exact xE ⟨x61, x62, a63, p64, x62.length, I, rfl, ⟨by kernel_rfl, by kernel_rfl, by kernel_rfl, by kernel_rfl, trivial⟩, hs.pk (.c d0 (.c d0 (.c d0 (.c d0 .n))))⟩
         ·refine st 10 [true] (k_op (lB (hs.bl d3) 2 rfl ?_))
          refine st 1 [] (k_val (elemPtr a21 (x61.toNat * 6)) (pI (e := 66) (ik := .i64) (hs.sR d2) c77 c76) ?_)
          refine k_val (elemPtr a21 (x61.toNat * 6 + 5)) (pF (off := 5) (hs.sR d2) c77 c76) ?_
          refine k_op (lC (seg_cell (f := 5) g78 rfl) ?_)
          refine k_op (nS (e := 5) hs .i (tInt .u8) ([(at_ x0.Cells x61).Char] : List Int) [.int .u8 ((at_ x0.Cells x61).Char)] 1 (.int .u8 0) (Reps.int (I := (Cl.G .i E.B I)) (k := .u8) (l := [(at_ x0.Cells x61).Char])) ?_)
          intro b82 h hs
          replace hs := (hs.f d2)
          obtain ⟨l84, m85, H⟩ := bind_some H
          refine k_op (aO (e := 5) (bytes := 1) hs (hs.sO d1) m85 ?_)
          intro a86 p87 h hs
          refine st 8 [] ?_
          exact k_endL ⟨k, Nat.lt_succ_self _, (w64 (x61 + 1)), l84, a86, p87, l84.length, I, H, ⟨by kernel_rfl, by kernel_rfl, by kernel_rfl, by kernel_rfl, trivial⟩, hs.pk (.c d2 (.c d0 (.c d1 (.c d1 .n))))⟩
        ·refine st 11 [false] ?_
         refine k_out rfl ?_
         obtain rfl := Option.some.inj H
         exact xE ⟨x61, x62, a63, p64, x62.length, I, rfl, ⟨by kernel_rfl, by kernel_rfl, by kernel_rfl, by kernel_rfl, trivial⟩, hs.pk (.c d0 (.c d0 (.c d0 (.c d0 .n))))⟩
      ·rintro ρ h ⟨x68, x69, a70, p71, n72, I, rfl, hf, hs⟩
       have H := HR74
       try dsimp only at H
       refine k_fits _ hf ?_ rfl
       obtain rfl := hs.nO d1
       obtain ⟨I, hs⟩ := (hs.f d1).fO
       refine st 4 [] (k_op (nS (e := 39) hs .i t_api_Order ([(⟨1, x69, (⟨false, false, 0, false⟩ : api_Attr), 0, 0⟩ : api_Order)] : List api_Order) [.int .i64 1, .slice a70 x69.length p71, .bool false, .bool false, .int .i64 0, .bool false, .int .i64 0, .int .u8 0] 8 (.agg #[.int .i64 0, .slice none 0 0, .bool false, .bool false, .int .i64 0, .bool false, .int .i64 0, .int .u8 0]) (Reps.cons (T := t_api_Order) (c := [.int .i64 1, .slice a70 x69.length p71, .bool false, .bool false, .int .i64 0, .bool false, .int .i64 0, .int .u8 0]) (x := (⟨1, x69, (⟨false, false, 0, false⟩ : api_Attr), 0, 0⟩ : api_Order)) ⟨_, _, _, rfl, (hs.g d0)⟩ (.nil : Reps t_api_Order (Cl.G .i E.B I) h [] [])) ?_))
       intro b89 h hs
       replace hs := (hs.f d2)
       obtain ⟨l91, m92, H⟩ := bind_some H
       refine k_op (aO (e := 39) (bytes := 72) hs (hs.sO d1) m92 ?_)
       intro a93 p94 h hs
       refine st 3 [] ?_
       exact k_endL ⟨k, Nat.lt_succ_self _, l91, x68, a93, p94, l91.length, I, H, ⟨by kernel_rfl, by kernel_rfl, by kernel_rfl, trivial⟩, hs.pk (.c d0 (.c d2 (.c d2 .n)))⟩
     ·rw [cond_true] at H
      refine st 5 [true] (k_op (lB (hs.bl d2) 2 rfl ?_))
      obtain ⟨c50, H⟩ := guard_pos H
      refine st 1 [] (k_val (elemPtr a21 (x33.toNat * 6)) (pI (e := 66) (ik := .i64) (hs.sR d1) c50 c42) ?_)
      refine k_val (elemPtr a21 (x33.toNat * 6 + 1)) (pF (off := 1) (hs.sR d1) c50 c42) ?_
      obtain ⟨y52, g51, q53⟩ := (hs.sR d1).toSl.seg c50 c42
      obtain rfl := t_api_Cell.open_ q53
      refine k_op (lG (seg_sub (f := 1) (k := 4) g51 rfl) ?_)
      refine st 1 [] (k_op (nS (e := 39) hs .i t_api_Order ([(⟨2, [], ((at_ x0.Cells x33).Attr), 0, 0⟩ : api_Order)] : List api_Order) [.int .i64 2, .slice none 0 0, .bool (((at_ x0.Cells x33).Attr).Protected), .bool (((at_ x0.Cells x33).Attr).Numeric), .int .i64 (((at_ x0.Cells x33).Attr).Show), .bool (((at_ x0.Cells x33).Attr).Modified), .int .i64 0, .int .u8 0] 8 (.agg #[.int .i64 0, .slice none 0 0, .bool false, .bool false, .int .i64 0, .bool false, .int .i64 0, .int .u8 0]) (Reps.cons (T := t_api_Order) (c := [.int .i64 2, .slice none 0 0, .bool (((at_ x0.Cells x33).Attr).Protected), .bool (((at_ x0.Cells x33).Attr).Numeric), .int .i64 (((at_ x0.Cells x33).Attr).Show), .bool (((at_ x0.Cells x33).Attr).Modified), .int .i64 0, .int .u8 0]) (x := (⟨2, [], ((at_ x0.Cells x33).Attr), 0, 0⟩ : api_Order)) ⟨none, 0, 0, rfl, ⟨rd_nil _ _ _, rfl⟩⟩ (.nil : Reps t_api_Order (Cl.G .i E.B I) h [] [])) ?_))
      intro b54 h hs
      replace hs := (hs.f d1)
      obtain ⟨l56, m57, H⟩ := bind_some H
      refine k_op (aO (e := 39) (bytes := 72) hs (hs.sO d1) m57 ?_)
      intro a58 p59 h hs
      refine st 9 [] ?_
      exact k_endL ⟨k, Nat.lt_succ_self _, l56, (w64 (x33 + 1)), a58, p59, l56.length, I, H, ⟨by kernel_rfl, by kernel_rfl, by kernel_rfl, trivial⟩, hs.pk (.c d0 (.c d1 (.c d1 .n)))⟩
   ·refine st 2 [false] ?_
    refine k_out rfl ?_
    obtain rfl := Option.some.inj H
    exact xE ⟨x28, a29, p30, x28.length, I, rfl, ⟨by kernel_rfl, by kernel_rfl, trivial⟩, hs.pk (.c d0 (.c d0 (.c d0 .n)))⟩
 ·rintro ρ h ⟨x35, a36, p37, n38, I, rfl, hf, hs⟩
  have H := HR40
  try dsimp only at H
  refine k_fits _ hf ?_ rfl
  obtain rfl := hs.nO d0
  refine st 4 [] (k_op (lB (hs.bl d2) 3 rfl ?_))
  refine k_ite H (fun c97 H => ?_) (fun c97 H => ?_)
  ·refine st 5 [true] (k_op (lB (hs.bl d2) 3 rfl ?_))
   refine st 1 [] (k_op (nS (e := 39) hs .i t_api_Order ([(⟨3, [], (⟨false, false, 0, false⟩ : api_Attr), x0.Cursor, 0⟩ : api_Order)] : List api_Order) [.int .i64 3, .slice none 0 0, .bool false, .bool false, .int .i64 0, .bool false, .int .i64 x0.Cursor, .int .u8 0] 8 (.agg #[.int .i64 0, .slice none 0 0, .bool false, .bool false, .int .i64 0, .bool false, .int .i64 0, .int .u8 0]) (Reps.cons (T := t_api_Order) (c := [.int .i64 3, .slice none 0 0, .bool false, .bool false, .int .i64 0, .bool false, .int .i64 x0.Cursor, .int .u8 0]) (x := (⟨3, [], (⟨false, false, 0, false⟩ : api_Attr), x0.Cursor, 0⟩ : api_Order)) ⟨none, 0, 0, rfl, ⟨rd_nil _ _ _, rfl⟩⟩ (.nil : Reps t_api_Order (Cl.G .i E.B I) h [] [])) ?_))
   intro b98 h hs
   replace hs := (hs.f d1)
   obtain ⟨l100, m101, H⟩ := bind_some H
   refine k_op (aO (e := 39) (bytes := 72) hs (hs.sO d1) m101 ?_)
   intro a102 p103 h hs
   refine st 6 [] (k_op (nS (e := 39) hs .i t_api_Order ([(⟨4, [], (⟨false, false, 0, false⟩ : api_Attr), 0, 0⟩ : api_Order)] : List api_Order) [.int .i64 4, .slice none 0 0, .bool false, .bool false, .int .i64 0, .bool false, .int .i64 0, .int .u8 0] 8 (.agg #[.int .i64 0, .slice none 0 0, .bool false, .bool false, .int .i64 0, .bool false, .int .i64 0, .int .u8 0]) (Reps.cons (T := t_api_Order) (c := [.int .i64 4, .slice none 0 0, .bool false, .bool false, .int .i64 0, .bool false, .int .i64 0, .int .u8 0]) (x := (⟨4, [], (⟨false, false, 0, false⟩ : api_Attr), 0, 0⟩ : api_Order)) ⟨none, 0, 0, rfl, ⟨rd_nil _ _ _, rfl⟩⟩ (.nil : Reps t_api_Order (Cl.G .i E.B I) h [] [])) ?_))
   intro b105 h hs
   replace hs := (hs.f d1)
   obtain ⟨l107, m108, H⟩ := bind_some H
   refine k_op (aO (e := 39) (bytes := 72) hs (hs.sO d1) m108 ?_)
   intro a109 p110 h hs
   refine st 2 [] ?_
   refine k_retQ ?_
   obtain rfl := Option.some.inj H
   exact ⟨_, by kernel_rfl, I, _, ⟨a109, p110, l107.length, rfl, rfl⟩, hs.pk (.c d0 .n)⟩
  ·refine st 7 [false] (k_op (nS (e := 39) hs .i t_api_Order ([(⟨4, [], (⟨false, false, 0, false⟩ : api_Attr), 0, 0⟩ : api_Order)] : List api_Order) [.int .i64 4, .slice none 0 0, .bool false, .bool false, .int .i64 0, .bool false, .int .i64 0, .int .u8 0] 8 (.agg #[.int .i64 0, .slice none 0 0, .bool false, .bool false, .int .i64 0, .bool false, .int .i64 0, .int .u8 0]) (Reps.cons (T := t_api_Order) (c := [.int .i64 4, .slice none 0 0, .bool false, .bool false, .int .i64 0, .bool false, .int .i64 0, .int .u8 0]) (x := (⟨4, [], (⟨false, false, 0, false⟩ : api_Attr), 0, 0⟩ : api_Order)) ⟨none, 0, 0, rfl, ⟨rd_nil _ _ _, rfl⟩⟩ (.nil : Reps t_api_Order (Cl.G .i E.B I) h [] [])) ?_))
   intro b112 h hs
   replace hs := (hs.f d1)
   obtain ⟨l114, m115, H⟩ := bind_some H
   refine k_op (aO (e := 39) (bytes := 72) hs (hs.sO d1) m115 ?_)
   intro a116 p117 h hs
   refine st 2 [] ?_
   refine k_retQ ?_
   obtain rfl := Option.some.inj H
   exact ⟨_, by kernel_rfl, I, _, ⟨a116, p117, l114.length, rfl, rfl⟩, hs.pk (.c d0 .n)⟩

/-! shutter/shutterlaw18.ReadKeeps -/
def shutterlaw18_ReadKeeps.l2.m (K : Nat) (t34 : (List api_Order)) (x42 : Int) : Nat → Int → Option (Unit)
  | 0, _ => none
  | k + 1, x49 => (if 0 ≤ x42 then (if x49 < ((at_ t34 x42).Text.length : Int) then (if 0 ≤ x49 then (if x49 < (((at_ t34 x42).Text).length : Int) then (shutterlaw18_ReadKeeps.l2.m K t34 x42 k (w64 (x49 + 1))) else none) else none) else (some (()))) else none)
def shutterlaw18_ReadKeeps.l1.m (K : Nat) (t34 : (List api_Order)) : Nat → Int → Option (Unit)
  | 0, _ => none
  | k + 1, x42 => (if x42 < (t34.length : Int) then ((shutterlaw18_ReadKeeps.l2.m K t34 x42 K 0).bind fun _ => (shutterlaw18_ReadKeeps.l1.m K t34 k (w64 (x42 + 1)))) else (some (())))
def shutterlaw18_ReadKeeps.l4.m (K : Nat) (t70 : (api_In × GoErr)) (x79 : Int) : Nat → Int → Option (Unit)
  | 0, _ => none
  | k + 1, x86 => (if 0 ≤ x79 then (if x86 < ((at_ t70.1.Fields x79).Text.length : Int) then (if 0 ≤ x86 then (if x86 < (((at_ t70.1.Fields x79).Text).length : Int) then (shutterlaw18_ReadKeeps.l4.m K t70 x79 k (w64 (x86 + 1))) else none) else none) else (some (()))) else none)
def shutterlaw18_ReadKeeps.l3.m (K : Nat) (t70 : (api_In × GoErr)) : Nat → Int → Option (Unit)
  | 0, _ => none
  | k + 1, x79 => (if x79 < (t70.1.Fields.length : Int) then ((shutterlaw18_ReadKeeps.l4.m K t70 x79 K 0).bind fun _ => (shutterlaw18_ReadKeeps.l3.m K t70 k (w64 (x79 + 1)))) else (some (())))
def shutterlaw18_ReadKeeps.m (K : Nat) (x0 : api_Screen) : Option Bool :=
  ((shutterlaw18_awake.m K).bind fun t26 => bif t26 then ((shutterref10_Few.m K x0).bind fun t27 => bif t27 then ((shutterref10_Copy.m x0).bind fun t28 => ((read_Image.m K x0).bind fun t34 => ((shutterlaw18_ReadKeeps.l1.m K t34 K 0).bind fun _ => ((read_Modified.m K x0 125).bind fun t70 => ((shutterlaw18_ReadKeeps.l3.m K t70 K 0).bind fun _ => ((shutterref10_Same.m K x0 t28).bind fun t109 => bif t109 then ((read_Image.m K x0).bind fun t110 => ((shutterref18_Image.m K x0).bind fun t115 => ((shutterref08_Same.m K (⟨0, (⟨false, false, false⟩ : api_Wcc), t110⟩ : api_Out) (⟨0, (⟨false, false, false⟩ : api_Wcc), t115⟩ : api_Out)).bind fun t120 => (some t120)))) else (some false))))))) else ((shutterlaw18_awake.m K).bind fun t121 => (some t121))) else ((shutterlaw18_awake.m K).bind fun t122 => (some t122)))

theorem shutterlaw18_ReadKeeps.calls {B I : Gh} {h : Heap} {K : Nat} {x0 : api_Screen} {a21 : Option Addr} {p22 : Nat} {n23 : Nat} {r : Bool} (H : shutterlaw18_ReadKeeps.m K x0 = some r)  :
    Fc Tryd.prog 4 #[.agg #[.int .i64 x0.Rows, .int .i64 x0.Cols, .slice a21 n23 p22, .int .i64 x0.Cursor, .bool x0.Locked, .bool x0.Insert]] [rR t_api_Cell .b a21 p22 n23 x0.Cells, rG] B I h (fun v L => v = .bool r ∧ L = []) := by
 refine fc_of fun E hs => ?_
 unfold shutterlaw18_ReadKeeps.m at H
 obtain rfl := hs.nR d0
 refine fn_of (args := [.agg #[.int .i64 x0.Rows, .int .i64 x0.Cols, .slice a21 x0.Cells.length p22, .int .i64 x0.Cursor, .bool x0.Locked, .bool x0.Insert]]) (rs := [.tmp 2]) (N := 89) Tryd.func4 rfl rfl rfl rfl ?_
 refine st 2 [] (k_op (nB hs [.int .i64 x0.Rows, .int .i64 x0.Cols, .slice a21 x0.Cells.length p22, .int .i64 x0.Cursor, .bool x0.Locked, .bool x0.Insert] ?_))
 intro b25 h hs
 obtain ⟨hk, bk⟩ := hs.call tk0 (.c (gK d2) .n)
 refine st 5 [] (k_call H (fun _ m => shutterlaw18_awake.calls m hk) ?_)
 rintro t26 _ h H ⟨I, _, ⟨rfl, rfl⟩, hk⟩
 replace hs := bk hk ct0 rfl
 cases t26
 ·rw [cond_false] at H
  obtain ⟨hk, bk⟩ := hs.call tk0 (.c (gK d2) .n)
  refine st 10 [true] (k_call H (fun _ m => shutterlaw18_awake.calls m hk) ?_)
  rintro t122 _ h H ⟨I, _, ⟨rfl, rfl⟩, hk⟩
  replace hs := bk hk ct0 rfl
  refine st 2 [] ?_
  refine k_retQ ?_
  obtain rfl := Option.some.inj H
  exact ⟨_, by kernel_rfl, I, _, ⟨rfl, rfl⟩, hs.pk .n⟩
 ·rw [cond_true] at H
  refine st 2 [] (k_op (lN (hs.bl d0) 0 6 ?_))
  obtain ⟨hk, bk⟩ := hs.call tk0 (.c (qB d1) .n)
  refine k_call H (fun _ m => shutterref10_Few.calls m hk) ?_
  rintro t27 _ h H ⟨I, _, ⟨rfl, rfl⟩, hk⟩
  replace hs := bk hk ct0 rfl
  cases t27
  ·rw [cond_false] at H
   obtain ⟨hk, bk⟩ := hs.call tk0 (.c (gK d2) .n)
   refine st 6 [true] (k_call H (fun _ m => shutterlaw18_awake.calls m hk) ?_)
   rintro t121 _ h H ⟨I, _, ⟨rfl, rfl⟩, hk⟩
   replace hs := bk hk ct0 rfl
   refine st 2 [] ?_
   refine k_retQ ?_
   obtain rfl := Option.some.inj H
   exact ⟨_, by kernel_rfl, I, _, ⟨rfl, rfl⟩, hs.pk .n⟩
  ·rw [cond_true] at H
   refine st 7 [false] (k_op (lN (hs.bl d0) 0 6 ?_))
   obtain ⟨hk, bk⟩ := hs.call tk0 (.c (qB d1) .n)
   refine k_call H (fun _ m => shutterref10_Copy.calls m hk) ?_
   rintro t28 _ h H ⟨I, _, ⟨a29, p30, n31, rfl, rfl⟩, hk⟩
   replace hs := bk hk ct1 rfl
   obtain rfl := hs.nO d0
   refine k_op (nA hs [.int .i64 0, .int .i64 0, .slice none 0 0, .int .i64 0, .bool false, .bool false] (.agg #[.int .i64 0, .int .i64 0, .slice none 0 0, .int .i64 0, .bool false, .bool false]) ?_)
   intro b33 h hs
   refine k_op (sN hs 0 [.int .i64 t28.Rows, .int .i64 t28.Cols, .slice a29 t28.Cells.length p30, .int .i64 t28.Cursor, .bool t28.Locked, .bool t28.Insert] [.int .i64 t28.Rows, .int .i64 t28.Cols, .slice a29 t28.Cells.length p30, .int .i64 t28.Cursor, .bool t28.Locked, .bool t28.Insert] (ones_of rfl) ?_)
   intro h hs
   refine st 3 [] (k_op (lN (hs.bl d2) 0 6 ?_))
   obtain ⟨hk, bk⟩ := hs.callN (.c (qB d3) .n) (.r .n)
   refine k_call H (fun _ m => read_Image.calls m hk) ?_
   rintro t34 _ h H ⟨_, _, ⟨a35, p36, n37, rfl, rfl⟩, hk⟩
   obtain ⟨J39, hs⟩ := bk hk
   obtain rfl := hs.nX d0
   refine st 8 [] ?_
   obtain ⟨s43, m45, HR44⟩ := bind_some H
   refine k_loop 0 (fun k' ρ h => ∃ (x42 : Int) (l40 : List api_Order) (I : Gh), shutterlaw18_ReadKeeps.l1.m K t34 k' x42 = some s43 ∧ Fits [(1, .pointer (some ⟨b25, 0, none⟩)), (3, .pointer (some ⟨b33, 0, none⟩)), (4, .slice a35 t34.length p36), (5, .int .i64 x42)] ρ ∧ ShL (fun (x y : api_Order) => x.Text.length = y.Text.length) l40 t34 ∧ St E [rX t_api_Order J39 a35 p36 t34.length l40, rR t_api_Cell .b a21 p22 x0.Cells.length x0.Cells, rB b25 [.int .i64 x0.Rows, .int .i64 x0.Cols, .slice a21 x0.Cells.length p22, .int .i64 x0.Cursor, .bool x0.Locked, .bool x0.Insert] 31, rO t_api_Cell .i a29 p30 t28.Cells.length t28.Cells, rB b33 [.int .i64 t28.Rows, .int .i64 t28.Cols, .slice a29 t28.Cells.length p30, .int .i64 t28.Cursor, .bool t28.Locked, .bool t28.Insert] 31, rG] I h) (fun ρ h => ∃ (I : Gh), () = s43 ∧ Fits [(1, .pointer (some ⟨b25, 0, none⟩)), (3, .pointer (some ⟨b33, 0, none⟩))] ρ ∧ St E [rR t_api_Cell .b a21 p22 x0.Cells.length x0.Cells, rB b25 [.int .i64 x0.Rows, .int .i64 x0.Cols, .slice a21 x0.Cells.length p22, .int .i64 x0.Cursor, .bool x0.Locked, .bool x0.Insert] 31, rO t_api_Cell .i a29 p30 t28.Cells.length t28.Cells, rB b33 [.int .i64 t28.Rows, .int .i64 t28.Cols, .slice a29 t28.Cells.length p30, .int .i64 t28.Cursor, .bool t28.Locked, .bool t28.Insert] 31, rG] I h) K ⟨0, t34, I, m45, ⟨by kernel_rfl, by kernel_rfl, by kernel_rfl, by kernel_rfl, trivial⟩, (ShL.refl (R := (fun (x y : api_Order) => x.Text.length = y.Text.length)) (fun _ => rfl) t34), hs.pk (.c d0 (.c d3 (.c d2 (.c d1 (.c d0 (.c d0 .n))))))⟩ ?_ rfl ?_
   ·clear HR44 m45 H
    rintro k' ρ h ⟨x42, l40, I, H, hf, sh41, hs⟩
    cases k' with
    | zero => cases H
    | succ k =>
     rw [shutterlaw18_ReadKeeps.l1.m] at H
     refine k_fits _ hf ?_ rfl
     refine st 6 [] (k_ite H (fun c46 H => ?_) (fun c46 H => ?_))
     ·refine st 10 [true] ?_
      obtain ⟨s50, m54, HR53⟩ := bind_some H
      refine k_loop 2 (fun k' ρ h => ∃ (x49 : Int) (l47 : List api_Order) (I : Gh), shutterlaw18_ReadKeeps.l2.m K t34 x42 k' x49 = some s50 ∧ Fits [(1, .pointer (some ⟨b25, 0, none⟩)), (3, .pointer (some ⟨b33, 0, none⟩)), (4, .slice a35 t34.length p36), (5, .int .i64 x42), (6, .int .i64 x49)] ρ ∧ ShL (fun (x y : api_Order) => x.Text.length = y.Text.length) l47 t34 ∧ St E [rX t_api_Order J39 a35 p36 t34.length l47, rR t_api_Cell .b a21 p22 x0.Cells.length x0.Cells, rB b25 [.int .i64 x0.Rows, .int .i64 x0.Cols, .slice a21 x0.Cells.length p22, .int .i64 x0.Cursor, .bool x0.Locked, .bool x0.Insert] 31, rO t_api_Cell .i a29 p30 t28.Cells.length t28.Cells, rB b33 [.int .i64 t28.Rows, .int .i64 t28.Cols, .slice a29 t28.Cells.length p30, .int .i64 t28.Cursor, .bool t28.Locked, .bool t28.Insert] 31, rG] I h) (fun ρ h => ∃ (l51 : List api_Order) (I : Gh), () = s50 ∧ Fits [(1, .pointer (some ⟨b25, 0, none⟩)), (3, .pointer (some ⟨b33, 0, none⟩)), (4, .slice a35 t34.length p36), (5, .int .i64 x42)] ρ ∧ ShL (fun (x y : api_Order) => x.Text.length = y.Text.length) l51 t34 ∧ St E [rX t_api_Order J39 a35 p36 t34.length l51, rR t_api_Cell .b a21 p22 x0.Cells.length x0.Cells, rB b25 [.int .i64 x0.Rows, .int .i64 x0.Cols, .slice a21 x0.Cells.length p22, .int .i64 x0.Cursor, .bool x0.Locked, .bool x0.Insert] 31, rO t_api_Cell .i a29 p30 t28.Cells.length t28.Cells, rB b33 [.int .i64 t28.Rows, .int .i64 t28.Cols, .slice a29 t28.Cells.length p30, .int .i64 t28.Cursor, .bool t28.Locked, .bool t28.Insert] 31, rG] I h) K ⟨0, l40, I, m54, ⟨by kernel_rfl, by kernel_rfl, by kernel_rfl, by kernel_rfl, by kernel_rfl, trivial⟩, sh41, hs.pk (.c d0 (.c d0 (.c d0 (.c d0 (.c d0 (.c d0 .n))))))⟩ ?_ rfl ?_
      ·clear HR53 m54 H
       rintro k' ρ h ⟨x49, l47, I, H, hf, sh48, hs⟩
       cases k' with
       | zero => cases H
       | succ k =>
        rw [shutterlaw18_ReadKeeps.l2.m] at H
        refine k_fits _ hf ?_ rfl
        obtain ⟨c55, H⟩ := guard_pos H
        refine st 6 [] (k_val (elemPtr a35 (x42.toNat * 8)) (pI (e := 39) (ik := .i64) (hs.sX d0) c55 (lt_eq sh48.1 c46)) ?_)
        refine k_val (elemPtr a35 (x42.toNat * 8 + 1)) (pF (off := 1) (hs.sX d0) c55 (lt_eq sh48.1 c46)) ?_
        obtain ⟨y57, g56, q58⟩ := (hs.sX d0).toSl.seg c55 (lt_eq sh48.1 c46)
        obtain ⟨a59, p60, n61, rfl, q63⟩ := t_api_Order.open_ q58
        have wq63 := sh48.at_ c55 (lt_eq sh48.1 c46)
        obtain rfl : _ = (at_ t34 x42).Text.length := q63.2.symm.trans wq63
        have rq63 := q63.1
        replace q63 : Sn _ _ _ _ _ _ _ := ⟨q63.1.toSl, q63.2⟩
        refine k_op (lC (seg_cell (f := 1) g56 rfl) ?_)
        refine st 1 [] (k_ite H (fun c64 H => ?_) (fun c64 H => ?_))
        ·refine st 8 [true] (k_val (elemPtr a35 (x42.toNat * 8)) (pI (e := 39) (ik := .i64) (hs.sX d0) c55 (lt_eq sh48.1 c46)) ?_)
         refine k_val (elemPtr a35 (x42.toNat * 8 + 1)) (pF (off := 1) (hs.sX d0) c55 (lt_eq sh48.1 c46)) ?_
         refine k_op (lC (seg_cell (f := 1) g56 rfl) ?_)
         obtain ⟨c65, H⟩ := guard_pos H
         obtain ⟨c66, H⟩ := guard_pos H
         refine st 1 [] (k_val (elemPtr a59 (x49.toNat * 1)) (pI (e := 5) (ik := .i64) q63 c65 (lt_eq wq63 c66)) ?_)
         refine k_op (sX shp_api_Order 7 hs rq63 c65 (lt_eq wq63 c66) ?_)
         intro h l67 hs e68
         have sh69 := ShL.trans (fun a b => a.trans b) e68 sh48
         refine st 7 [] ?_
         exact k_endL ⟨k, Nat.lt_succ_self _, (w64 (x49 + 1)), l67, I, H, ⟨by kernel_rfl, by kernel_rfl, by kernel_rfl, by kernel_rfl, by kernel_rfl, trivial⟩, sh69, hs.pk (.c d0 (.c d0 (.c d0 (.c d0 (.c d0 (.c d0 .n))))))⟩
        ·refine st 2 [false] ?_
         refine k_out rfl ?_
         obtain rfl := Option.some.inj H
         exact xE ⟨l47, I, rfl, ⟨by kernel_rfl, by kernel_rfl, by kernel_rfl, by kernel_rfl, trivial⟩, sh48, hs.pk (.c d0 (.c d0 (.c d0 (.c d0 (.c d0 (.c d0 .n))))))⟩
      ·rintro ρ h ⟨l51, I, rfl, hf, sh52, hs⟩
       have H := HR53
       try dsimp only at H
       refine k_fits _ hf ?_ rfl
       refine st 6 [] ?_
       exact k_endL ⟨k, Nat.lt_succ_self _, (w64 (x42 + 1)), l51, I, H, ⟨by kernel_rfl, by kernel_rfl, by kernel_rfl, by kernel_rfl, trivial⟩, sh52, hs.pk (.c d0 (.c d0 (.c d0 (.c d0 (.c d0 (.c d0 .n))))))⟩
     ·refine st 2 [false] ?_
      refine k_out rfl ?_
      obtain rfl := Option.some.inj H
      exact xE ⟨I, rfl, ⟨by kernel_rfl, by kernel_rfl, trivial⟩, hs.pk (.c d1 (.c d1 (.c d1 (.c d1 (.c d1 .n)))))⟩
   ·rintro ρ h ⟨I, rfl, hf, hs⟩
    have H := HR44
    try dsimp only at H
    refine k_fits _ hf ?_ rfl
    refine st 2 [] (k_op (lN (hs.bl d1) 0 6 ?_))
    obtain ⟨hk, bk⟩ := hs.callN (.c (qB d0) .n) (.r .n)
    refine k_call H (fun _ m => read_Modified.calls m hk) ?_
    rintro t70 _ h H ⟨_, _, ⟨a71, p72, n73, v75, rfl, rfl⟩, hk⟩
    obtain ⟨J77, hs⟩ := bk hk
    obtain rfl := hs.nX d0
    refine st 3 [] (k_op (nA hs [.int .u8 0, .int .i64 0, .slice none 0 0] (.agg #[.int .u8 0, .int .i64 0, .slice none 0 0]) ?_))
    intro b78 h hs
    refine k_op (sN hs 0 [.int .u8 t70.1.Aid, .int .i64 t70.1.Cursor, .slice a71 t70.1.Fields.length p72] [.int .u8 t70.1.Aid, .int .i64 t70.1.Cursor, .slice a71 t70.1.Fields.length p72] (ones_of rfl) ?_)
    intro h hs
    refine st 8 [] ?_
    obtain ⟨s82, m84, HR83⟩ := bind_some H
    refine k_loop 4 (fun k' ρ h => ∃ (x79 : Int) (l80 : List api_Entry) (I : Gh), shutterlaw18_ReadKeeps.l3.m K t70 k' x79 = some s82 ∧ Fits [(1, .pointer (some ⟨b25, 0, none⟩)), (3, .pointer (some ⟨b33, 0, none⟩)), (7, .pointer (some ⟨b78, 0, none⟩)), (9, .int .i64 x79)] ρ ∧ ShL (fun (x y : api_Entry) => x.Text.length = y.Text.length) l80 t70.1.Fields ∧ St E [rR t_api_Cell .b a21 p22 x0.Cells.length x0.Cells, rB b25 [.int .i64 x0.Rows, .int .i64 x0.Cols, .slice a21 x0.Cells.length p22, .int .i64 x0.Cursor, .bool x0.Locked, .bool x0.Insert] 31, rO t_api_Cell .i a29 p30 t28.Cells.length t28.Cells, rB b33 [.int .i64 t28.Rows, .int .i64 t28.Cols, .slice a29 t28.Cells.length p30, .int .i64 t28.Cursor, .bool t28.Locked, .bool t28.Insert] 31, rX t_api_Entry J77 a71 p72 t70.1.Fields.length l80, rB b78 [.int .u8 t70.1.Aid, .int .i64 t70.1.Cursor, .slice a71 t70.1.Fields.length p72] 42, rG] I h) (fun ρ h => ∃ (I : Gh), () = s82 ∧ Fits [(1, .pointer (some ⟨b25, 0, none⟩)), (3, .pointer (some ⟨b33, 0, none⟩))] ρ ∧ St E [rR t_api_Cell .b a21 p22 x0.Cells.length x0.Cells, rB b25 [.int .i64 x0.Rows, .int .i64 x0.Cols, .slice a21 x0.Cells.length p22, .int .i64 x0.Cursor, .bool x0.Locked, .bool x0.Insert] 31, rO t_api_Cell .i a29 p30 t28.Cells.length t28.Cells, rB b33 [.int .i64 t28.Rows, .int .i64 t28.Cols, .slice a29 t28.Cells.length p30, .int .i64 t28.Cursor, .bool t28.Locked, .bool t28.Insert] 31, rG] I h) K ⟨0, t70.1.Fields, I, m84, ⟨by kernel_rfl, by kernel_rfl, by kernel_rfl, by kernel_rfl, trivial⟩, (ShL.refl (R := (fun (x y : api_Entry) => x.Text.length = y.Text.length)) (fun _ => rfl) t70.1.Fields), hs.pk (.c d2 (.c d2 (.c d2 (.c d2 (.c d1 (.c d0 (.c d0 .n)))))))⟩ ?_ rfl ?_
    ·clear HR83 m84 H
     rintro k' ρ h ⟨x79, l80, I, H, hf, sh81, hs⟩
     cases k' with
     | zero => cases H
     | succ k =>
      rw [shutterlaw18_ReadKeeps.l3.m] at H
      refine k_fits _ hf ?_ rfl
      refine st 5 [] (k_op (lB (hs.bl d5) 2 rfl ?_))
      refine st 1 [] (k_ite H (fun c85 H => ?_) (fun c85 H => ?_))
      ·refine st 10 [true] ?_
       obtain ⟨s89, m93, HR92⟩ := bind_some H
       refine k_loop 6 (fun k' ρ h => ∃ (x86 : Int) (l87 : List api_Entry) (I : Gh), shutterlaw18_ReadKeeps.l4.m K t70 x79 k' x86 = some s89 ∧ Fits [(1, .pointer (some ⟨b25, 0, none⟩)), (3, .pointer (some ⟨b33, 0, none⟩)), (7, .pointer (some ⟨b78, 0, none⟩)), (9, .int .i64 x79), (10, .int .i64 x86)] ρ ∧ ShL (fun (x y : api_Entry) => x.Text.length = y.Text.length) l87 t70.1.Fields ∧ St E [rR t_api_Cell .b a21 p22 x0.Cells.length x0.Cells, rB b25 [.int .i64 x0.Rows, .int .i64 x0.Cols, .slice a21 x0.Cells.length p22, .int .i64 x0.Cursor, .bool x0.Locked, .bool x0.Insert] 31, rO t_api_Cell .i a29 p30 t28.Cells.length t28.Cells, rB b33 [.int .i64 t28.Rows, .int .i64 t28.Cols, .slice a29 t28.Cells.length p30, .int .i64 t28.Cursor, .bool t28.Locked, .bool t28.Insert] 31, rX t_api_Entry J77 a71 p72 t70.1.Fields.length l87, rB b78 [.int .u8 t70.1.Aid, .int .i64 t70.1.Cursor, .slice a71 t70.1.Fields.length p72] 42, rG] I h) (fun ρ h => ∃ (l90 : List api_Entry) (I : Gh), () = s89 ∧ Fits [(1, .pointer (some ⟨b25, 0, none⟩)), (3, .pointer (some ⟨b33, 0, none⟩)), (7, .pointer (some ⟨b78, 0, none⟩)), (9, .int .i64 x79)] ρ ∧ ShL (fun (x y : api_Entry) => x.Text.length = y.Text.length) l90 t70.1.Fields ∧ St E [rR t_api_Cell .b a21 p22 x0.Cells.length x0.Cells, rB b25 [.int .i64 x0.Rows, .int .i64 x0.Cols, .slice a21 x0.Cells.length p22, .int .i64 x0.Cursor, .bool x0.Locked, .bool x0.Insert] 31, rO t_api_Cell .i a29 p30 t28.Cells.length t28.Cells, rB b33 [.int .i64 t28.Rows, .int .i64 t28.Cols, .slice a29 t28.Cells.length p30, .int .i64 t28.Cursor, .bool t28.Locked, .bool t28.Insert] 31, rX t_api_Entry J77 a71 p72 t70.1.Fields.length l90, rB b78 [.int .u8 t70.1.Aid, .int .i64 t70.1.Cursor, .slice a71 t70.1.Fields.length p72] 42, rG] I h) K ⟨0, l80, I, m93, ⟨by kernel_rfl, by kernel_rfl, by kernel_rfl, by kernel_rfl, by kernel_rfl, trivial⟩, sh81, hs.pk (.c d0 (.c d0 (.c d0 (.c d0 (.c d0 (.c d0 (.c d0 .n)))))))⟩ ?_ rfl ?_
       ·clear HR92 m93 H
        rintro k' ρ h ⟨x86, l87, I, H, hf, sh88, hs⟩
        cases k' with
        | zero => cases H
        | succ k =>
         rw [shutterlaw18_ReadKeeps.l4.m] at H
         refine k_fits _ hf ?_ rfl
         refine st 5 [] (k_op (lB (hs.bl d5) 2 rfl ?_))
         obtain ⟨c94, H⟩ := guard_pos H
         refine st 1 [] (k_val (elemPtr a71 (x79.toNat * 2)) (pI (e := 48) (ik := .i64) (hs.sX d4) c94 (lt_eq sh88.1 c85)) ?_)
         refine k_val (elemPtr a71 (x79.toNat * 2 + 1)) (pF (off := 1) (hs.sX d4) c94 (lt_eq sh88.1 c85)) ?_
         obtain ⟨y96, g95, q97⟩ := (hs.sX d4).toSl.seg c94 (lt_eq sh88.1 c85)
         obtain ⟨a98, p99, n100, rfl, q102⟩ := t_api_Entry.open_ q97
         have wq102 := sh88.at_ c94 (lt_eq sh88.1 c85)
         obtain rfl : _ = (at_ t70.1.Fields x79).Text.length := q102.2.symm.trans wq102
         have rq102 := q102.1
         replace q102 : Sn _ _ _ _ _ _ _ := ⟨q102.1.toSl, q102.2⟩
         refine k_op (lC (seg_cell (f := 1) g95 rfl) ?_)
         refine st 1 [] (k_ite H (fun c103 H => ?_) (fun c103 H => ?_))
         ·refine st 7 [true] (k_op (lB (hs.bl d5) 2 rfl ?_))
          refine st 1 [] (k_val (elemPtr a71 (x79.toNat * 2)) (pI (e := 48) (ik := .i64) (hs.sX d4) c94 (lt_eq sh88.1 c85)) ?_)
          refine k_val (elemPtr a71 (x79.toNat * 2 + 1)) (pF (off := 1) (hs.sX d4) c94 (lt_eq sh88.1 c85)) ?_
          refine k_op (lC (seg_cell (f := 1) g95 rfl) ?_)
          obtain ⟨c104, H⟩ := guard_pos H
          obtain ⟨c105, H⟩ := guard_pos H
          refine st 1 [] (k_val (elemPtr a98 (x86.toNat * 1)) (pI (e := 5) (ik := .i64) q102 c104 (lt_eq wq102 c105)) ?_)
          replace hs := (hs.f d4)
          refine k_op (sX shp_api_Entry 7 hs rq102 c104 (lt_eq wq102 c105) ?_)
          intro h l106 hs e107
          have sh108 := ShL.trans (fun a b => a.trans b) e107 sh88
          refine st 7 [] ?_
          exact k_endL ⟨k, Nat.lt_succ_self _, (w64 (x86 + 1)), l106, I, H, ⟨by kernel_rfl, by kernel_rfl, by kernel_rfl, by kernel_rfl, by kernel_rfl, trivial⟩, sh108, hs.pk (.c d1 (.c d1 (.c d1 (.c d1 (.c d0 (.c d0 (.c d0 .n)))))))⟩
         ·refine st 2 [false] ?_
          refine k_out rfl ?_
          obtain rfl := Option.some.inj H
          exact xE ⟨l87, I, rfl, ⟨by kernel_rfl, by kernel_rfl, by kernel_rfl, by kernel_rfl, trivial⟩, sh88, hs.pk (.c d0 (.c d0 (.c d0 (.c d0 (.c d0 (.c d0 (.c d0 .n)))))))⟩
       ·rintro ρ h ⟨l90, I, rfl, hf, sh91, hs⟩
        have H := HR92
        try dsimp only at H
        refine k_fits _ hf ?_ rfl
        refine st 6 [] ?_
        exact k_endL ⟨k, Nat.lt_succ_self _, (w64 (x79 + 1)), l90, I, H, ⟨by kernel_rfl, by kernel_rfl, by kernel_rfl, by kernel_rfl, trivial⟩, sh91, hs.pk (.c d0 (.c d0 (.c d0 (.c d0 (.c d0 (.c d0 (.c d0 .n)))))))⟩
      ·refine st 2 [false] ?_
       refine k_out rfl ?_
       obtain rfl := Option.some.inj H
       exact xE ⟨I, rfl, ⟨by kernel_rfl, by kernel_rfl, trivial⟩, hs.pk (.c d0 (.c d0 (.c d0 (.c d0 (.c d2 .n)))))⟩
    ·rintro ρ h ⟨I, rfl, hf, hs⟩
     have H := HR83
     try dsimp only at H
     refine k_fits _ hf ?_ rfl
     refine st 1 [] ?_
     obtain ⟨hs0, bk0⟩ := hs.call tk0 (.c (qL d1) (.c (qL d3) (.c (qB d0) (.c (qO d2) .n))))
     have hs := hs0
     refine k_regD hs0 13 ?_
     refine aG 0 rfl hs.keep (lls hs0 d0 0 6 rfl) (nmL hs0 d0) ?_
     refine aG 1 rfl hs.keep (lls hs0 d1 0 6 rfl) (nmL hs0 d1) ?_
     obtain ⟨hk, bk⟩ := hs.call tk0 (.c (qB d2) (.c (qB d3) .n))
     refine aO1 2 rfl (o_call H (fun _ m => shutterref10_Same.calls m hk) ?_)
     rintro t109 _ h H ⟨I, _, ⟨rfl, rfl⟩, hk⟩
     replace hs := bk hk ct0 rfl
     refine ⟨hs.keep, ?_⟩
     cases t109
     ·rw [cond_false] at H
      refine aRun [3, 4, 5, 6, 7, 8, 9, 10, 11, 12] 0 hs.keep ?_
      replace hs := hs.pk .n
      replace hs := bk0 hs ct0 rfl
      refine aEnd ?_
      refine k_retQ ?_
      obtain rfl := Option.some.inj H
      exact ⟨_, by kernel_rfl, I, _, ⟨rfl, rfl⟩, hs.pk .n⟩
     ·rw [cond_true] at H
      refine aRun [3] 9 hs.keep ?_
      refine aG 4 rfl hs.keep (lls hs0 d0 0 6 rfl) (nmL hs0 d0) ?_
      refine aG 7 rfl hs.keep (lls hs0 d0 0 6 rfl) (nmL hs0 d0) ?_
      obtain ⟨hk, bk⟩ := hs.call tk0 (.c (qB d2) .n)
      refine aO1 5 rfl (o_call H (fun _ m => read_Image.calls m hk) ?_)
      rintro t110 _ h H ⟨I, _, ⟨a111, p112, n113, rfl, rfl⟩, hk⟩
      replace hs := bk hk ct1 rfl
      obtain rfl := hs.nO d0
      refine ⟨hs.keep, ?_⟩
      refine aRun [6] 5 hs.keep ?_
      obtain ⟨hk, bk⟩ := hs.call tk0 (.c (qB d3) .n)
      refine aO1 8 rfl (o_call H (fun _ m => shutterref18_Image.calls m hk) ?_)
      rintro t115 _ h H ⟨I, _, ⟨a116, p117, n118, rfl, rfl⟩, hk⟩
      replace hs := bk hk ct1 rfl
      obtain rfl := hs.nO d0
      refine ⟨hs.keep, ?_⟩
      refine aRun [9] 3 hs.keep ?_
      obtain ⟨hk, bk⟩ := hs.call tk0 (.c (qO d1) (.c (qO d0) .n))
      refine aO1 10 rfl (o_call H (fun _ m => shutterref08_Same.calls m hk) ?_)
      rintro t120 _ h H ⟨I, _, ⟨rfl, rfl⟩, hk⟩
      replace hs := bk hk ct0 rfl
      refine ⟨hs.keep, ?_⟩
      refine aRun [11, 12] 0 hs.keep ?_
      replace hs := hs.pk (.c d0 (.c d0 .n))
      replace hs := bk0 hs ct2 rfl
      refine aEnd ?_
      refine k_retQ ?_
      obtain rfl := Option.some.inj H
      exact ⟨_, by kernel_rfl, I, _, ⟨rfl, rfl⟩, hs.pk .n⟩

end Go.Proofs.YtfbcjibdgicaoaaDoor.Sx
