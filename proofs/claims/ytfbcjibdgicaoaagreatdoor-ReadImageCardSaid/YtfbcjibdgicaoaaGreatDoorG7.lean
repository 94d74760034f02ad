/- Printed walks, part 7: each function's model, and that the code comes to it. -/
import Derived.Test.YtfbcjibdgicaoaaGreatDoorProg
import Derived.Test.YtfbcjibdgicaoaaGreatDoorV4
import Derived.Test.YtfbcjibdgicaoaaGreatDoorVF
import Derived.Test.YtfbcjibdgicaoaaGreatDoorV6
import Derived.Test.YtfbcjibdgicaoaaGreatDoorV7
import Derived.Test.YtfbcjibdgicaoaaGreatDoorG6
namespace Go.Proofs.YtfbcjibdgicaoaaGreatDoor.Sx
open Go
set_option maxRecDepth 100000
set_option maxHeartbeats 4000000

/-! (*shutter/paint.brush).do -/
def paint_brush_do.l1.m (K : Nat) (x1 : api_Order) : Nat → Int → Int → Int → (List api_Cell) → Int → Bool → Bool → Int → Option (Int × Int × (List api_Cell) × Int × Bool × Bool × Int)
  | 0, _, _, _, _, _, _, _, _ => none
  | k + 1, x31, x32, x33, x34, x39, x40, x41, x42 => (if x31 < (x1.Text.length : Int) then (if 0 ≤ x31 then ((paint_brush_put.m (⟨(⟨x32, x33, x34, x39, x40, x41⟩ : api_Screen), x42⟩ : paint_brush) (⟨false, (⟨false, false, 0, false⟩ : api_Attr), (at_ x1.Text x31)⟩ : api_Cell)).bind fun t59 => (paint_brush_do.l1.m K x1 k (w64 (x31 + 1)) t59.s'.Rows t59.s'.Cols t59.s'.Cells t59.s'.Cursor t59.s'.Locked t59.s'.Insert t59.at')) else none) else (some ((x32, x33, x34, x39, x40, x41, x42))))
def paint_brush_do.l2.m (K : Nat) (x1 : api_Order) (t78 : (List Int)) : Nat → Int → Int → Int → (List api_Cell) → Int → Bool → Bool → Int → Option (Int × Int × (List api_Cell) × Int × Bool × Bool × Int)
  | 0, _, _, _, _, _, _, _, _ => none
  | k + 1, x83, x84, x85, x86, x91, x92, x93, x94 => (if x83 < (t78.length : Int) then ((paint_brush_put.m (⟨(⟨x84, x85, x86, x91, x92, x93⟩ : api_Screen), x94⟩ : paint_brush) (⟨false, (⟨false, false, 0, false⟩ : api_Attr), x1.Char⟩ : api_Cell)).bind fun t110 => (paint_brush_do.l2.m K x1 t78 k (w64 (x83 + 1)) t110.s'.Rows t110.s'.Cols t110.s'.Cells t110.s'.Cursor t110.s'.Locked t110.s'.Insert t110.at')) else (some ((x84, x85, x86, x91, x92, x93, x94))))
def paint_brush_do.m (K : Nat) (x0 : paint_brush) (x1 : api_Order) : Option paint_brush :=
  (if x1.Kind = 1 then ((paint_brush_do.l1.m K x1 K 0 x0.s'.Rows x0.s'.Cols x0.s'.Cells x0.s'.Cursor x0.s'.Locked x0.s'.Insert x0.at').bind fun (x44, x45, x46, x51, x52, x53, x54) => (some (⟨(⟨x44, x45, x46, x51, x52, x53⟩ : api_Screen), x54⟩ : paint_brush))) else (if x1.Kind = 2 then ((paint_brush_put.m x0 (⟨true, x1.Attr, 0⟩ : api_Cell)).bind fun t65 => (some t65)) else (if x1.Kind = 4 then (some (⟨(⟨x0.s'.Rows, x0.s'.Cols, x0.s'.Cells, x0.at', x0.s'.Locked, x0.s'.Insert⟩ : api_Screen), x0.at'⟩ : paint_brush)) else (if x1.Kind = 5 then ((paint_brush_tab.m K x0).bind fun t72 => (some t72)) else (if x1.Kind = 6 then ((grid_Span.m K x0.s' x0.at' x1.Addr).bind fun t78 => ((paint_brush_do.l2.m K x1 t78 K 0 x0.s'.Rows x0.s'.Cols x0.s'.Cells x0.s'.Cursor x0.s'.Locked x0.s'.Insert x0.at').bind fun (x96, x97, x98, x103, x104, x105, x106) => (if x1.Kind = 7 then ((paint_brush_erase.m K (⟨(⟨x96, x97, x98, x103, x104, x105⟩ : api_Screen), x106⟩ : paint_brush) x1.Addr).bind fun t116 => (some (⟨t116.s', x1.Addr⟩ : paint_brush))) else (some (⟨(⟨x96, x97, x98, x103, x104, x105⟩ : api_Screen), x1.Addr⟩ : paint_brush))))) else (if x1.Kind = 7 then ((paint_brush_erase.m K x0 x1.Addr).bind fun t122 => (some (⟨t122.s', x1.Addr⟩ : paint_brush))) else (if x1.Kind = 3 then (some (⟨x0.s', x1.Addr⟩ : paint_brush)) else (some x0))))))))

theorem paint_brush_do.calls {B I : Gh} {h : Heap} {K : Nat} {x0 : paint_brush} {x1 : api_Order} {b0 : Nat} {a21 : Option Addr} {p22 : Nat} {n23 : Nat} {a25 : Option Addr} {p26 : Nat} {n27 : Nat} {r : paint_brush} (H : paint_brush_do.m K x0 x1 = some r)  :
    Fc Tryz.prog 68 #[.pointer (some ⟨b0, 0, none⟩), .agg #[.int .i64 x1.Kind, .slice a25 n27 p26, .bool x1.Attr.Protected, .bool x1.Attr.Numeric, .int .i64 x1.Attr.Show, .bool x1.Attr.Modified, .int .i64 x1.Addr, .int .u8 x1.Char]] [rB b0 [.int .i64 x0.s'.Rows, .int .i64 x0.s'.Cols, .slice a21 n23 p22, .int .i64 x0.s'.Cursor, .bool x0.s'.Locked, .bool x0.s'.Insert, .int .i64 x0.at'] 111, rO t_api_Cell .i a21 p22 n23 x0.s'.Cells, rR (tInt .u8) .b a25 p26 n27 x1.Text] B I h (fun v L => ∃ (a128 : Option Addr) (p129 : Nat) (n130 : Nat), v = .tuple #[] ∧ L = [rB b0 [.int .i64 r.s'.Rows, .int .i64 r.s'.Cols, .slice a128 n130 p129, .int .i64 r.s'.Cursor, .bool r.s'.Locked, .bool r.s'.Insert, .int .i64 r.at'] 111, rO t_api_Cell .i a128 p129 n130 r.s'.Cells]) := by
 refine fc_of fun E hs => ?_
 unfold paint_brush_do.m at H
 obtain rfl := hs.nO d1
 obtain rfl := hs.nR d2
 refine fn_of (args := [.pointer (some ⟨b0, 0, none⟩), .agg #[.int .i64 x1.Kind, .slice a25 x1.Text.length p26, .bool x1.Attr.Protected, .bool x1.Attr.Numeric, .int .i64 x1.Attr.Show, .bool x1.Attr.Modified, .int .i64 x1.Addr, .int .u8 x1.Char]]) (rs := []) (N := 81) Tryz.func68 rfl rfl rfl rfl ?_
 refine st 2 [] (k_op (nB hs [.int .i64 x1.Kind, .slice a25 x1.Text.length p26, .bool x1.Attr.Protected, .bool x1.Attr.Numeric, .int .i64 x1.Attr.Show, .bool x1.Attr.Modified, .int .i64 x1.Addr, .int .u8 x1.Char] ?_))
 intro b29 h hs
 refine st 4 [] (k_op (lB (hs.bl d0) 0 rfl ?_))
 refine st 20 [] (k_ite H (fun c30 H => ?_) (fun c30 H => ?_))
 ·refine st 8 [true] (k_op (lB (hs.bl d0) 1 rfl ?_))
  refine st 4 [] ?_
  obtain ⟨s43, m56, HR55⟩ := bind_some H
  refine k_loop 8 (fun k' ρ h => ∃ (x31 : Int) (x32 : Int) (x33 : Int) (x34 : List api_Cell) (x39 : Int) (x40 : Bool) (x41 : Bool) (x42 : Int) (a35 : Option Addr) (p36 : Nat) (n37 : Nat) (I : Gh), paint_brush_do.l1.m K x1 k' x31 x32 x33 x34 x39 x40 x41 x42 = some s43 ∧ Fits [(0, .pointer (some ⟨b0, 0, none⟩)), (23, .slice a25 x1.Text.length p26), (24, .int .i64 (x1.Text.length : Int)), (25, .int .i64 x31)] ρ ∧ St E [rR (tInt .u8) .b a25 p26 x1.Text.length x1.Text, rO t_api_Cell .i a35 p36 n37 x34, rB b0 [.int .i64 x32, .int .i64 x33, .slice a35 n37 p36, .int .i64 x39, .bool x40, .bool x41, .int .i64 x42] 111] I h) (fun ρ h => ∃ (x44 : Int) (x45 : Int) (x46 : List api_Cell) (x51 : Int) (x52 : Bool) (x53 : Bool) (x54 : Int) (a47 : Option Addr) (p48 : Nat) (n49 : Nat) (I : Gh), (x44, x45, x46, x51, x52, x53, x54) = s43 ∧ Fits [] ρ ∧ St E [rO t_api_Cell .i a47 p48 n49 x46, rB b0 [.int .i64 x44, .int .i64 x45, .slice a47 n49 p48, .int .i64 x51, .bool x52, .bool x53, .int .i64 x54] 111] I h) K ⟨0, x0.s'.Rows, x0.s'.Cols, x0.s'.Cells, x0.s'.Cursor, x0.s'.Locked, x0.s'.Insert, x0.at', a21, p22, x0.s'.Cells.length, I, m56, ⟨by kernel_rfl, by kernel_rfl, by kernel_rfl, by kernel_rfl, trivial⟩, hs.pk (.c d3 (.c d2 (.c d1 .n)))⟩ ?_ rfl ?_
  ·clear HR55 m56 H
   rintro k' ρ h ⟨x31, x32, x33, x34, x39, x40, x41, x42, a35, p36, n37, I, H, hf, hs⟩
   cases k' with
   | zero => cases H
   | succ k =>
    rw [paint_brush_do.l1.m] at H
    refine k_fits _ hf ?_ rfl
    obtain rfl := hs.nO d1
    refine st 2 [] (k_ite H (fun c57 H => ?_) (fun c57 H => ?_))
    ·obtain ⟨c58, H⟩ := guard_pos H
     refine st 8 [true] (k_val (elemPtr a25 (x31.toNat * 1)) (pI (e := 5) (ik := .i64) (hs.sR d0) c58 c57) ?_)
     refine k_op (lC ((hs.sR d0).cell1 c58 c57) ?_)
     obtain ⟨hk, bk⟩ := ((hs.f d1).f d2).call tk2 .n
     refine st 6 [] (k_call H (fun _ m => paint_brush_put.calls m hk) ?_)
     rintro t59 _ h H ⟨I, _, ⟨a60, p61, n62, rfl, rfl⟩, hk⟩
     replace hs := bk hk ct2 rfl
     obtain rfl := hs.nO d1
     refine st 6 [] ?_
     exact k_endL ⟨k, Nat.lt_succ_self _, (w64 (x31 + 1)), t59.s'.Rows, t59.s'.Cols, t59.s'.Cells, t59.s'.Cursor, t59.s'.Locked, t59.s'.Insert, t59.at', a60, p61, t59.s'.Cells.length, I, H, ⟨by kernel_rfl, by kernel_rfl, by kernel_rfl, by kernel_rfl, trivial⟩, hs.pk (.c d2 (.c d1 (.c d0 .n)))⟩
    ·refine st 3 [false] ?_
     refine k_out rfl ?_
     obtain rfl := Option.some.inj H
     exact xE ⟨x32, x33, x34, x39, x40, x41, x42, a35, p36, x34.length, I, rfl, trivial, hs.pk (.c d1 (.c d1 .n))⟩
  ·rintro ρ h ⟨x44, x45, x46, x51, x52, x53, x54, a47, p48, n49, I, rfl, hf, hs⟩
   have H := HR55
   try dsimp only at H
   refine k_fits _ hf ?_ rfl
   obtain rfl := hs.nO d0
   refine st 1 [] ?_
   refine k_fin ?_
   obtain rfl := Option.some.inj H
   exact ⟨_, by kernel_rfl, I, _, ⟨a47, p48, x46.length, rfl, rfl⟩, hs.pk (.c d1 (.c d0 .n))⟩
 ·refine st 7 [false] (k_ite H (fun c64 H => ?_) (fun c64 H => ?_))
  ·refine st 8 [true] (k_op (lN (hs.bl d0) 2 4 ?_))
   obtain ⟨hk, bk⟩ := ((hs.f d2).f d2).call tk2 .n
   refine st 1 [] (k_call H (fun _ m => paint_brush_put.calls m hk) ?_)
   rintro t65 _ h H ⟨I, _, ⟨a66, p67, n68, rfl, rfl⟩, hk⟩
   replace hs := bk hk ct2 rfl
   obtain rfl := hs.nO d1
   refine st 2 [] ?_
   refine k_fin ?_
   obtain rfl := Option.some.inj H
   exact ⟨_, by kernel_rfl, I, _, ⟨a66, p67, t65.s'.Cells.length, rfl, rfl⟩, hs.pk (.c d0 (.c d0 .n))⟩
  ·refine st 7 [false] (k_ite H (fun c70 H => ?_) (fun c70 H => ?_))
   ·refine st 10 [true] (k_op (lB (hs.bl d1) 6 rfl ?_))
    refine st 3 [] (k_op (sB (v := .int .i64 x0.at') (hs.f d1) cw3 ?_))
    intro h hs
    refine st 2 [] ?_
    refine k_fin ?_
    obtain rfl := Option.some.inj H
    exact ⟨_, by kernel_rfl, I, _, ⟨a21, p22, x0.s'.Cells.length, rfl, rfl⟩, hs.pk (.c d0 (.c d1 .n))⟩
   ·refine st 7 [false] (k_ite H (fun c71 H => ?_) (fun c71 H => ?_))
    ·obtain ⟨hk, bk⟩ := ((hs.f d2).f d2).call tk2 .n
     refine st 7 [true] (k_call H (fun _ m => paint_brush_tab.calls m hk) ?_)
     rintro t72 _ h H ⟨I, _, ⟨a73, p74, n75, rfl, rfl⟩, hk⟩
     replace hs := bk hk ct2 rfl
     obtain rfl := hs.nO d1
     refine st 2 [] ?_
     refine k_fin ?_
     obtain rfl := Option.some.inj H
     exact ⟨_, by kernel_rfl, I, _, ⟨a73, p74, t72.s'.Cells.length, rfl, rfl⟩, hs.pk (.c d0 (.c d0 .n))⟩
    ·refine st 7 [false] (k_ite H (fun c77 H => ?_) (fun c77 H => ?_))
     ·refine st 5 [true] ?_
      obtain ⟨hs0, bk0⟩ := hs.call tk0 (.c (qL d1) (.c (qL d0) (.c (qO d2) .n)))
      have hs := hs0
      refine k_regD hs0 13 ?_
      refine aRun [0, 1, 2] 10 hs.keep ?_
      refine aG 3 rfl hs.keep (lls hs0 d0 0 6 rfl) (nmL hs0 d0) ?_
      refine aRun [4, 5, 6] 6 hs.keep ?_
      refine aL 7 rfl hs.keep (ll hs0 d0 (n := 6) rfl) (nmL hs0 d0) ?_
      refine aRun [8] 4 hs.keep ?_
      refine aL 9 rfl hs.keep (ll hs0 d1 (n := 6) rfl) (nmL hs0 d1) ?_
      refine aRun [12] 2 hs.keep ?_
      obtain ⟨hk, bk⟩ := hs.call tk0 (.c (qB d2) .n)
      refine aO1 10 rfl (o_call H (fun _ m => grid_Span.calls m hk) ?_)
      rintro t78 _ h H ⟨I, _, ⟨a79, p80, n81, rfl, rfl⟩, hk⟩
      replace hs := bk hk ct1 rfl
      obtain rfl := hs.nO d0
      refine ⟨hs.keep, ?_⟩
      refine aRun [11] 0 hs.keep ?_
      replace hs := hs.pk (.c d0 .n)
      replace hs := bk0 hs ct1 rfl
      refine aEnd ?_
      refine st 1 [] ?_
      obtain ⟨s95, m108, HR107⟩ := bind_some H
      refine k_loop 10 (fun k' ρ h => ∃ (x83 : Int) (x84 : Int) (x85 : Int) (x86 : List api_Cell) (x91 : Int) (x92 : Bool) (x93 : Bool) (x94 : Int) (a87 : Option Addr) (p88 : Nat) (n89 : Nat) (I : Gh), paint_brush_do.l2.m K x1 t78 k' x83 x84 x85 x86 x91 x92 x93 x94 = some s95 ∧ Fits [(0, .pointer (some ⟨b0, 0, none⟩)), (3, .pointer (some ⟨b29, 0, none⟩)), (60, .int .i64 (t78.length : Int)), (61, .int .i64 x83)] ρ ∧ St E [rO t_api_Cell .i a87 p88 n89 x86, rB b0 [.int .i64 x84, .int .i64 x85, .slice a87 n89 p88, .int .i64 x91, .bool x92, .bool x93, .int .i64 x94] 111, rR (tInt .u8) .b a25 p26 x1.Text.length x1.Text, rB b29 [.int .i64 x1.Kind, .slice a25 x1.Text.length p26, .bool x1.Attr.Protected, .bool x1.Attr.Numeric, .int .i64 x1.Attr.Show, .bool x1.Attr.Modified, .int .i64 x1.Addr, .int .u8 x1.Char] 76] I h) (fun ρ h => ∃ (x96 : Int) (x97 : Int) (x98 : List api_Cell) (x103 : Int) (x104 : Bool) (x105 : Bool) (x106 : Int) (a99 : Option Addr) (p100 : Nat) (n101 : Nat) (I : Gh), (x96, x97, x98, x103, x104, x105, x106) = s95 ∧ Fits [(0, .pointer (some ⟨b0, 0, none⟩)), (3, .pointer (some ⟨b29, 0, none⟩))] ρ ∧ St E [rO t_api_Cell .i a99 p100 n101 x98, rB b0 [.int .i64 x96, .int .i64 x97, .slice a99 n101 p100, .int .i64 x103, .bool x104, .bool x105, .int .i64 x106] 111, rR (tInt .u8) .b a25 p26 x1.Text.length x1.Text, rB b29 [.int .i64 x1.Kind, .slice a25 x1.Text.length p26, .bool x1.Attr.Protected, .bool x1.Attr.Numeric, .int .i64 x1.Attr.Show, .bool x1.Attr.Modified, .int .i64 x1.Addr, .int .u8 x1.Char] 76] I h) K ⟨0, x0.s'.Rows, x0.s'.Cols, x0.s'.Cells, x0.s'.Cursor, x0.s'.Locked, x0.s'.Insert, x0.at', a21, p22, x0.s'.Cells.length, I, m108, ⟨by kernel_rfl, by kernel_rfl, by kernel_rfl, by kernel_rfl, trivial⟩, hs.pk (.c d3 (.c d2 (.c d2 (.c d1 .n))))⟩ ?_ rfl ?_
      ·clear HR107 m108 H
       rintro k' ρ h ⟨x83, x84, x85, x86, x91, x92, x93, x94, a87, p88, n89, I, H, hf, hs⟩
       cases k' with
       | zero => cases H
       | succ k =>
        rw [paint_brush_do.l2.m] at H
        refine k_fits _ hf ?_ rfl
        obtain rfl := hs.nO d0
        refine st 2 [] (k_ite H (fun c109 H => ?_) (fun c109 H => ?_))
        ·refine st 9 [true] (k_op (lB (hs.bl d3) 7 rfl ?_))
         obtain ⟨hk, bk⟩ := (hs.f d1).call tk2 .n
         refine st 1 [] (k_call H (fun _ m => paint_brush_put.calls m hk) ?_)
         rintro t110 _ h H ⟨I, _, ⟨a111, p112, n113, rfl, rfl⟩, hk⟩
         replace hs := bk hk ct2 rfl
         obtain rfl := hs.nO d1
         refine st 6 [] ?_
         exact k_endL ⟨k, Nat.lt_succ_self _, (w64 (x83 + 1)), t110.s'.Rows, t110.s'.Cols, t110.s'.Cells, t110.s'.Cursor, t110.s'.Locked, t110.s'.Insert, t110.at', a111, p112, t110.s'.Cells.length, I, H, ⟨by kernel_rfl, by kernel_rfl, by kernel_rfl, by kernel_rfl, trivial⟩, hs.pk (.c d1 (.c d0 (.c d0 (.c d0 .n))))⟩
        ·refine st 3 [false] ?_
         refine k_out rfl ?_
         obtain rfl := Option.some.inj H
         exact xE ⟨x84, x85, x86, x91, x92, x93, x94, a87, p88, x86.length, I, rfl, ⟨by kernel_rfl, by kernel_rfl, trivial⟩, hs.pk (.c d0 (.c d0 (.c d0 (.c d0 .n))))⟩
      ·rintro ρ h ⟨x96, x97, x98, x103, x104, x105, x106, a99, p100, n101, I, rfl, hf, hs⟩
       have H := HR107
       try dsimp only at H
       refine k_fits _ hf ?_ rfl
       obtain rfl := hs.nO d0
       refine st 4 [] (k_op (lB (hs.bl d3) 0 rfl ?_))
       refine k_ite H (fun c115 H => ?_) (fun c115 H => ?_)
       ·refine st 5 [true] (k_op (lB (hs.bl d3) 6 rfl ?_))
        obtain ⟨hk, bk⟩ := (hs.f d1).call tk2 .n
        refine k_call H (fun _ m => paint_brush_erase.calls m hk) ?_
        rintro t116 _ h H ⟨I, _, ⟨a117, p118, n119, rfl, rfl⟩, hk⟩
        replace hs := bk hk ct2 rfl
        obtain rfl := hs.nO d1
        refine st 6 [] (k_op (lB (hs.bl d3) 6 rfl ?_))
        refine st 2 [] (k_op (sB (v := .int .i64 x1.Addr) hs cw6 ?_))
        intro h hs
        refine st 2 [] ?_
        refine k_fin ?_
        obtain rfl := Option.some.inj H
        exact ⟨_, by kernel_rfl, I, _, ⟨a117, p118, t116.s'.Cells.length, rfl, rfl⟩, hs.pk (.c d0 (.c d0 .n))⟩
       ·refine st 8 [false] (k_op (lB (hs.bl d3) 6 rfl ?_))
        refine st 2 [] (k_op (sB (v := .int .i64 x1.Addr) (hs.f d1) cw6 ?_))
        intro h hs
        refine st 2 [] ?_
        refine k_fin ?_
        obtain rfl := Option.some.inj H
        exact ⟨_, by kernel_rfl, I, _, ⟨a99, p100, x98.length, rfl, rfl⟩, hs.pk (.c d0 (.c d0 .n))⟩
     ·refine st 7 [false] (k_ite H (fun c121 H => ?_) (fun c121 H => ?_))
      ·refine st 7 [true] (k_op (lB (hs.bl d0) 0 rfl ?_))
       refine k_val (.bool true) (pr_bool (by kernel_rfl) (eqT c121)) ?_
       refine st 5 [true] (k_op (lB (hs.bl d0) 6 rfl ?_))
       obtain ⟨hk, bk⟩ := ((hs.f d2).f d2).call tk2 .n
       refine k_call H (fun _ m => paint_brush_erase.calls m hk) ?_
       rintro t122 _ h H ⟨I, _, ⟨a123, p124, n125, rfl, rfl⟩, hk⟩
       replace hs := bk hk ct2 rfl
       obtain rfl := hs.nO d1
       refine st 6 [] (k_op (lB (hs.bl d2) 6 rfl ?_))
       refine st 2 [] (k_op (sB (v := .int .i64 x1.Addr) hs cw6 ?_))
       intro h hs
       refine st 2 [] ?_
       refine k_fin ?_
       obtain rfl := Option.some.inj H
       exact ⟨_, by kernel_rfl, I, _, ⟨a123, p124, t122.s'.Cells.length, rfl, rfl⟩, hs.pk (.c d0 (.c d0 .n))⟩
      ·refine st 6 [false] (k_ite H (fun c127 H => ?_) (fun c127 H => ?_))
       ·refine st 8 [true] (k_op (lB (hs.bl d0) 6 rfl ?_))
        refine st 2 [] (k_op (sB (v := .int .i64 x1.Addr) (hs.f d1) cw6 ?_))
        intro h hs
        refine st 2 [] ?_
        refine k_fin ?_
        obtain rfl := Option.some.inj H
        exact ⟨_, by kernel_rfl, I, _, ⟨a21, p22, x0.s'.Cells.length, rfl, rfl⟩, hs.pk (.c d0 (.c d1 .n))⟩
       ·refine st 5 [false] ?_
        refine k_fin ?_
        obtain rfl := Option.some.inj H
        exact ⟨_, by kernel_rfl, I, _, ⟨a21, p22, x0.s'.Cells.length, rfl, rfl⟩, hs.pk (.c d1 (.c d1 .n))⟩

/-! shutter/paint.All -/
def paint_All.l1.m (K : Nat) (x0 : api_Screen) (x1 : Int) (x2 : (List api_Order)) : Nat → Int → Option ((api_Screen × Int × GoErr) ⊕ (Unit))
  | 0, _ => none
  | k + 1, x31 => (letJ (α := Bool → Option ((api_Screen × Int × GoErr) ⊕ (Unit))) (fun (x36 : Bool) => (bif x36 then (if 0 ≤ x31 then (if x31 < (x2.length : Int) then ((grid_Size.m x0).bind fun t49 => ((order_Right.m K (⟨(at_ x2 x31).Kind, (at_ x2 x31).Text, ((at_ x2 x31).Attr), (at_ x2 x31).Addr, (at_ x2 x31).Char⟩ : api_Order) t49).bind fun t50 => (letJ (α := Bool → Option ((api_Screen × Int × GoErr) ⊕ (Unit))) (fun (x57 : Bool) => (bif x57 then (some (Sum.inl (x0, x1, (GoErr.spot x31 t50)))) else (paint_All.l1.m K x0 x1 x2 k (w64 (x31 + 1))))) fun (j58 : Bool → Option ((api_Screen × Int × GoErr) ⊕ (Unit))) => (if t50 = GoErr.nil then (j58 false) else (j58 true))))) else none) else none) else (some (Sum.inr ())))) fun (j37 : Bool → Option ((api_Screen × Int × GoErr) ⊕ (Unit))) => (if x31 < (x2.length : Int) then (j37 true) else (j37 false)))
def paint_All.l2.m (K : Nat) (x2 : (List api_Order)) : Nat → Int → Int → Int → (List api_Cell) → Int → Bool → Bool → Int → Option (Int × Int × (List api_Cell) × Int × Bool × Bool × Int)
  | 0, _, _, _, _, _, _, _, _ => none
  | k + 1, x73, x74, x75, x76, x81, x82, x83, x84 => (letJ (α := Bool → Option (Int × Int × (List api_Cell) × Int × Bool × Bool × Int)) (fun (x100 : Bool) => (bif x100 then (if 0 ≤ x73 then (if x73 < (x2.length : Int) then ((paint_brush_do.m K (⟨(⟨x74, x75, x76, x81, x82, x83⟩ : api_Screen), x84⟩ : paint_brush) (⟨(at_ x2 x73).Kind, (at_ x2 x73).Text, ((at_ x2 x73).Attr), (at_ x2 x73).Addr, (at_ x2 x73).Char⟩ : api_Order)).bind fun t113 => (paint_All.l2.m K x2 k (w64 (x73 + 1)) t113.s'.Rows t113.s'.Cols t113.s'.Cells t113.s'.Cursor t113.s'.Locked t113.s'.Insert t113.at')) else none) else none) else (some ((x74, x75, x76, x81, x82, x83, x84))))) fun (j101 : Bool → Option (Int × Int × (List api_Cell) × Int × Bool × Bool × Int)) => (if x73 < (x2.length : Int) then (j101 true) else (j101 false)))
def paint_All.m (K : Nat) (x0 : api_Screen) (x1 : Int) (x2 : (List api_Order)) : Option (api_Screen × Int × GoErr) :=
  ((paint_All.l1.m K x0 x1 x2 K 0).bind fun s32 => match s32 with | .inl q => (some q) | .inr _ => ((grid_Copy.m x0).bind fun t67 => ((paint_All.l2.m K x2 K 0 t67.Rows t67.Cols t67.Cells t67.Cursor t67.Locked t67.Insert x1).bind fun (x86, x87, x88, x93, x94, x95, x96) => (some ((⟨x86, x87, x88, x93, x94, x95⟩ : api_Screen), x96, GoErr.nil)))))

theorem paint_All.calls {B I : Gh} {h : Heap} {K : Nat} {x0 : api_Screen} {x1 : Int} {x2 : (List api_Order)} {a21 : Option Addr} {p22 : Nat} {n23 : Nat} {a25 : Option Addr} {p26 : Nat} {n27 : Nat} {r : (api_Screen × Int × GoErr)} (H : paint_All.m K x0 x1 x2 = some r)  :
    Fc Tryz.prog 23 #[.agg #[.int .i64 x0.Rows, .int .i64 x0.Cols, .slice a21 n23 p22, .int .i64 x0.Cursor, .bool x0.Locked, .bool x0.Insert], .int .i64 x1, .slice a25 n27 p26] [rR t_api_Cell .i a21 p22 n23 x0.Cells, rR t_api_Order .b a25 p26 n27 x2] B I h (fun v L => ∃ (a119 : Option Addr) (p120 : Nat) (n121 : Nat) (v123 : Value), v = .tuple #[.agg #[.int .i64 r.1.Rows, .int .i64 r.1.Cols, .slice a119 n121 p120, .int .i64 r.1.Cursor, .bool r.1.Locked, .bool r.1.Insert], .int .i64 r.2.1, v123] ∧ L = [rR t_api_Cell .i a119 p120 n121 r.1.Cells, rE .i v123 r.2.2]) := by
 refine fc_of fun E hs => ?_
 unfold paint_All.m at H
 obtain rfl := hs.nR d0
 obtain rfl := hs.nR d1
 refine fn_of2 (args := [.agg #[.int .i64 x0.Rows, .int .i64 x0.Cols, .slice a21 x0.Cells.length p22, .int .i64 x0.Cursor, .bool x0.Locked, .bool x0.Insert], .int .i64 x1, .slice a25 x2.length p26]) (rs := [.cell 6 24, .tmp 7, .tmp 8]) (N := 59) Tryz.func23 rfl rfl rfl rfl ?_
 refine st 2 [] (k_op (nB hs [.int .i64 x0.Rows, .int .i64 x0.Cols, .slice a21 x0.Cells.length p22, .int .i64 x0.Cursor, .bool x0.Locked, .bool x0.Insert] ?_))
 intro b29 h hs
 refine k_op (nA hs [.int .i64 0, .int .i64 0, .slice none 0 0, .int .i64 0, .bool false, .bool false] (.agg #[.int .i64 0, .int .i64 0, .slice none 0 0, .int .i64 0, .bool false, .bool false]) ?_)
 intro b30 h hs
 refine st 11 [] ?_
 obtain ⟨s32, m34, HR33⟩ := bind_some H
 refine k_loop 0 (fun k' ρ h => ∃ (x31 : Int) (I : Gh), paint_All.l1.m K x0 x1 x2 k' x31 = some s32 ∧ Fits [(1, .int .i64 x1), (2, .slice a25 x2.length p26), (3, .pointer (some ⟨b29, 0, none⟩)), (6, .pointer (some ⟨b30, 0, none⟩)), (15, .slice a25 x2.length p26), (16, .int .i64 (x2.length : Int)), (17, .int .i64 x31)] ρ ∧ St E [rR t_api_Order .b a25 p26 x2.length x2, rR t_api_Cell .i a21 p22 x0.Cells.length x0.Cells, rB b29 [.int .i64 x0.Rows, .int .i64 x0.Cols, .slice a21 x0.Cells.length p22, .int .i64 x0.Cursor, .bool x0.Locked, .bool x0.Insert] 24, rB b30 [.int .i64 0, .int .i64 0, .slice none 0 0, .int .i64 0, .bool false, .bool false] 24] I h) (fun ρ h => ∃ (I : Gh), Sum.inr () = s32 ∧ Fits [(1, .int .i64 x1), (2, .slice a25 x2.length p26), (3, .pointer (some ⟨b29, 0, none⟩)), (6, .pointer (some ⟨b30, 0, none⟩))] ρ ∧ St E [rR t_api_Order .b a25 p26 x2.length x2, rR t_api_Cell .i a21 p22 x0.Cells.length x0.Cells, rB b29 [.int .i64 x0.Rows, .int .i64 x0.Cols, .slice a21 x0.Cells.length p22, .int .i64 x0.Cursor, .bool x0.Locked, .bool x0.Insert] 24, rB b30 [.int .i64 0, .int .i64 0, .slice none 0 0, .int .i64 0, .bool false, .bool false] 24] I h) K ⟨0, I, m34, ⟨by kernel_rfl, by kernel_rfl, by kernel_rfl, by kernel_rfl, by kernel_rfl, by kernel_rfl, by kernel_rfl, trivial⟩, hs.pk (.c d3 (.c d2 (.c d1 (.c d0 .n))))⟩ ?_ rfl ?_
 ·clear m34 H
  rintro k' ρ h ⟨x31, I, H, hf, hs⟩
  cases k' with
  | zero => cases H
  | succ k =>
   rw [paint_All.l1.m] at H
   refine k_fits _ hf ?_ rfl
   refine st 1 [] ?_
   obtain ⟨j37, e66, H⟩ := letJ_some H
   refine k_join (fun ρ h => ∃ (x36 : Bool) (I : Gh), j37 x36 = some s32 ∧ Fits [(1, .int .i64 x1), (2, .slice a25 x2.length p26), (3, .pointer (some ⟨b29, 0, none⟩)), (6, .pointer (some ⟨b30, 0, none⟩)), (15, .slice a25 x2.length p26), (16, .int .i64 (x2.length : Int)), (17, .int .i64 x31), (18, .bool x36)] ρ ∧ St E [rR t_api_Order .b a25 p26 x2.length x2, rR t_api_Cell .i a21 p22 x0.Cells.length x0.Cells, rB b29 [.int .i64 x0.Rows, .int .i64 x0.Cols, .slice a21 x0.Cells.length p22, .int .i64 x0.Cursor, .bool x0.Locked, .bool x0.Insert] 24, rB b30 [.int .i64 0, .int .i64 0, .slice none 0 0, .int .i64 0, .bool false, .bool false] 24] I h) ?_ ?_
   ·refine st 1 [] (k_ite H (fun c35 H => ?_) (fun c35 H => ?_))
    ·refine st 1 [] ?_
     exact k_end ⟨true, I, H, ⟨by kernel_rfl, by kernel_rfl, by kernel_rfl, by kernel_rfl, by kernel_rfl, by kernel_rfl, by kernel_rfl, by kernel_rfl, trivial⟩, hs.pk (.c d0 (.c d0 (.c d0 (.c d0 .n))))⟩
    ·refine st 1 [] ?_
     exact k_end ⟨false, I, H, ⟨by kernel_rfl, by kernel_rfl, by kernel_rfl, by kernel_rfl, by kernel_rfl, by kernel_rfl, by kernel_rfl, by kernel_rfl, trivial⟩, hs.pk (.c d0 (.c d0 (.c d0 (.c d0 .n))))⟩
   ·clear H
    rintro ρ h ⟨x36, I, H, hf, hs⟩
    refine k_fits _ hf ?_ rfl
    subst e66
    try dsimp only at H
    cases x36
    ·rw [cond_false] at H
     refine st 2 [false] ?_
     refine k_out rfl ?_
     obtain rfl := Option.some.inj H
     exact xE ⟨I, rfl, ⟨by kernel_rfl, by kernel_rfl, by kernel_rfl, by kernel_rfl, trivial⟩, hs.pk (.c d0 (.c d0 (.c d0 (.c d0 .n))))⟩
    ·rw [cond_true] at H
     obtain ⟨c38, H⟩ := guard_pos H
     obtain ⟨c39, H⟩ := guard_pos H
     refine st 8 [true] (k_val (elemPtr a25 (x31.toNat * 8)) (pI (e := 76) (ik := .i64) (hs.sR d0) c38 c39) ?_)
     obtain ⟨y41, g40, q42⟩ := (hs.sR d0).toSl.seg c38 c39
     obtain ⟨a43, p44, n45, rfl, q47⟩ := t_api_Order.open_ q42
     obtain rfl := q47.2
     replace hs := hs.pR q47
     refine k_op (lG g40 ?_)
     refine k_op (nA hs [.int .i64 0, .slice none 0 0, .bool false, .bool false, .int .i64 0, .bool false, .int .i64 0, .int .u8 0] (.agg #[.int .i64 0, .slice none 0 0, .bool false, .bool false, .int .i64 0, .bool false, .int .i64 0, .int .u8 0]) ?_)
     intro b48 h hs
     refine st 1 [] (k_op (sN hs 0 [.int .i64 ((at_ x2 x31).Kind), .slice a43 (((at_ x2 x31).Text).length) p44, .bool (((at_ x2 x31).Attr).Protected), .bool (((at_ x2 x31).Attr).Numeric), .int .i64 (((at_ x2 x31).Attr).Show), .bool (((at_ x2 x31).Attr).Modified), .int .i64 ((at_ x2 x31).Addr), .int .u8 ((at_ x2 x31).Char)] [.int .i64 ((at_ x2 x31).Kind), .slice a43 (((at_ x2 x31).Text).length) p44, .bool (((at_ x2 x31).Attr).Protected), .bool (((at_ x2 x31).Attr).Numeric), .int .i64 (((at_ x2 x31).Attr).Show), .bool (((at_ x2 x31).Attr).Modified), .int .i64 ((at_ x2 x31).Addr), .int .u8 ((at_ x2 x31).Char)] (ones_of rfl) ?_))
     intro h hs
     refine st 2 [] ?_
     obtain ⟨hs0, bk0⟩ := hs.call tk0 (.c (qL d0) (.c (qL d4) (.c (qK d3) (.c (qB d1) .n))))
     have hs := hs0
     refine k_regD hs0 5 ?_
     refine aG 0 rfl hs.keep (lls hs0 d0 0 8 rfl) (nmL hs0 d0) ?_
     refine aG 1 rfl hs.keep (lls hs0 d1 0 6 rfl) (nmL hs0 d1) ?_
     obtain ⟨hk, bk⟩ := hs.call tk0 (.c (qI d2) .n)
     refine aO1 2 rfl (o_call H (fun _ m => grid_Size.calls m hk) ?_)
     rintro t49 _ h H ⟨I, _, ⟨rfl, rfl⟩, hk⟩
     replace hs := bk hk ct0 rfl
     refine ⟨hs.keep, ?_⟩
     obtain ⟨hk, bk⟩ := hs.call tk0 (.c (qB d3) .n)
     refine aO1 3 rfl (o_call H (fun _ m => order_Right.calls m hk) ?_)
     rintro t50 v51 h H ⟨I, _, ⟨_, rfl, rfl⟩, hk⟩
     replace hs := bk hk ct1 rfl
     refine ⟨hs.keep, ?_⟩
     refine aRun [4] 0 hs.keep ?_
     replace hs := hs.pk (.c d0 .n)
     replace hs := bk0 hs ct1 rfl
     refine aEnd ?_
     refine st 1 [] ?_
     obtain ⟨j58, e65, H⟩ := letJ_some H
     refine k_join (fun ρ h => ∃ (x57 : Bool) (v56 : Value) (I : Gh), j58 x57 = some s32 ∧ Fits [(1, .int .i64 x1), (2, .slice a25 x2.length p26), (3, .pointer (some ⟨b29, 0, none⟩)), (6, .pointer (some ⟨b30, 0, none⟩)), (9, .int .i64 x31), (11, v56), (15, .slice a25 x2.length p26), (16, .int .i64 (x2.length : Int)), (17, .int .i64 x31), (27, .bool x57)] ρ ∧ St E [rR t_api_Order .b a25 p26 x2.length x2, rE .i v56 t50, rR t_api_Cell .i a21 p22 x0.Cells.length x0.Cells, rB b29 [.int .i64 x0.Rows, .int .i64 x0.Cols, .slice a21 x0.Cells.length p22, .int .i64 x0.Cursor, .bool x0.Locked, .bool x0.Insert] 24, rB b30 [.int .i64 0, .int .i64 0, .slice none 0 0, .int .i64 0, .bool false, .bool false] 24] I h) ?_ ?_
     ·rcases (hs.er d0).cases with ⟨c53, rfl⟩ | ⟨c53, t54, u55, rfl⟩
      ·rw [if_pos c53] at H
       refine st 4 [] ?_
       exact k_end ⟨false, .nilIface, I, H, ⟨by kernel_rfl, by kernel_rfl, by kernel_rfl, by kernel_rfl, by kernel_rfl, by kernel_rfl, by kernel_rfl, by kernel_rfl, by kernel_rfl, by kernel_rfl, trivial⟩, hs.pk (.c d3 (.c d0 (.c d2 (.c d2 (.c d2 .n)))))⟩
      ·rw [if_neg c53] at H
       refine st 4 [] ?_
       exact k_end ⟨true, (.iface t54 u55), I, H, ⟨by kernel_rfl, by kernel_rfl, by kernel_rfl, by kernel_rfl, by kernel_rfl, by kernel_rfl, by kernel_rfl, by kernel_rfl, by kernel_rfl, by kernel_rfl, trivial⟩, hs.pk (.c d3 (.c d0 (.c d2 (.c d2 (.c d2 .n)))))⟩
     ·clear H
      rintro ρ h ⟨x57, v56, I, H, hf, hs⟩
      refine k_fits _ hf ?_ rfl
      subst e65
      try dsimp only at H
      cases x57
      ·rw [cond_false] at H
       refine st 7 [false] ?_
       exact k_endL ⟨k, Nat.lt_succ_self _, (w64 (x31 + 1)), I, H, ⟨by kernel_rfl, by kernel_rfl, by kernel_rfl, by kernel_rfl, by kernel_rfl, by kernel_rfl, by kernel_rfl, trivial⟩, hs.pk (.c d0 (.c d1 (.c d1 (.c d1 .n))))⟩
      ·rw [cond_true] at H
       refine st 3 [true] (k_op (lN (hs.bl d3) 0 6 ?_))
       rcases (hs.er d1).cases with ⟨c59, rfl⟩ | ⟨c59, t60, u61, rfl⟩
       ·refine st 4 [] (k_op (nB hs [.int .i64 x31, .nilIface] ?_))
        intro b62 h hs
        have q63 := (hs.er d2)
        obtain ⟨I, hs⟩ := hs.fS q63
        refine st 1 [] (k_op (sN (hs.f d5) 0 [.int .i64 x0.Rows, .int .i64 x0.Cols, .slice a21 x0.Cells.length p22, .int .i64 x0.Cursor, .bool x0.Locked, .bool x0.Insert] [.int .i64 x0.Rows, .int .i64 x0.Cols, .slice a21 x0.Cells.length p22, .int .i64 x0.Cursor, .bool x0.Locked, .bool x0.Insert] (ones_of rfl) ?_))
        intro h hs
        refine st 3 [] ?_
        refine k_retQ (krL ?_)
        obtain rfl := Option.some.inj H
        obtain rfl := Option.some.inj HR33
        exact ⟨[.agg #[.int .i64 x0.Rows, .int .i64 x0.Cols, .slice a21 x0.Cells.length p22, .int .i64 x0.Cursor, .bool x0.Locked, .bool x0.Insert], .int .i64 x1, (.iface 105 (.pointer (some ⟨b62, 0, none⟩)))], (.cons (.agg (by kernel_rfl) (by kernel_rfl) (by kernel_rfl) ((hs.bl d0).seg_ 0 6 (Nat.le_of_ble_eq_true rfl))) (.cons (.tmp (by kernel_rfl)) (.cons (.tmp (by kernel_rfl)) .nil))), I, _, ⟨a21, p22, x0.Cells.length, ((.iface 105 (.pointer (some ⟨b62, 0, none⟩)))), rfl, rfl⟩, hs.pk (.c d4 (.c d1 .n))⟩
       ·refine st 4 [] (k_op (nB hs [.int .i64 x31, (.iface t60 u61)] ?_))
        intro b62 h hs
        have q63 := (hs.er d2)
        obtain ⟨I, hs⟩ := hs.fS q63
        refine st 1 [] (k_op (sN (hs.f d5) 0 [.int .i64 x0.Rows, .int .i64 x0.Cols, .slice a21 x0.Cells.length p22, .int .i64 x0.Cursor, .bool x0.Locked, .bool x0.Insert] [.int .i64 x0.Rows, .int .i64 x0.Cols, .slice a21 x0.Cells.length p22, .int .i64 x0.Cursor, .bool x0.Locked, .bool x0.Insert] (ones_of rfl) ?_))
        intro h hs
        refine st 3 [] ?_
        refine k_retQ (krL ?_)
        obtain rfl := Option.some.inj H
        obtain rfl := Option.some.inj HR33
        exact ⟨[.agg #[.int .i64 x0.Rows, .int .i64 x0.Cols, .slice a21 x0.Cells.length p22, .int .i64 x0.Cursor, .bool x0.Locked, .bool x0.Insert], .int .i64 x1, (.iface 105 (.pointer (some ⟨b62, 0, none⟩)))], (.cons (.agg (by kernel_rfl) (by kernel_rfl) (by kernel_rfl) ((hs.bl d0).seg_ 0 6 (Nat.le_of_ble_eq_true rfl))) (.cons (.tmp (by kernel_rfl)) (.cons (.tmp (by kernel_rfl)) .nil))), I, _, ⟨a21, p22, x0.Cells.length, ((.iface 105 (.pointer (some ⟨b62, 0, none⟩)))), rfl, rfl⟩, hs.pk (.c d4 (.c d1 .n))⟩
 ·rintro ρ h ⟨I, rfl, hf, hs⟩
  have H := HR33
  try dsimp only at H
  refine k_fits _ hf ?_ rfl
  refine st 2 [] (k_op (lN (hs.bl d2) 0 6 ?_))
  obtain ⟨hk, bk⟩ := hs.call tk0 (.c (qI d1) .n)
  refine k_call H (fun _ m => grid_Copy.calls m hk) ?_
  rintro t67 _ h H ⟨I, _, ⟨a68, p69, n70, rfl, rfl⟩, hk⟩
  replace hs := bk hk ct1 rfl
  obtain rfl := hs.nO d0
  refine st 2 [] (k_op (nB hs [.int .i64 t67.Rows, .int .i64 t67.Cols, .slice a68 t67.Cells.length p69, .int .i64 t67.Cursor, .bool t67.Locked, .bool t67.Insert, .int .i64 x1] ?_))
  intro b72 h hs
  refine st 10 [] ?_
  obtain ⟨s85, m98, HR97⟩ := bind_some H
  refine k_loop 2 (fun k' ρ h => ∃ (x73 : Int) (x74 : Int) (x75 : Int) (x76 : List api_Cell) (x81 : Int) (x82 : Bool) (x83 : Bool) (x84 : Int) (a77 : Option Addr) (p78 : Nat) (n79 : Nat) (I : Gh), paint_All.l2.m K x2 k' x73 x74 x75 x76 x81 x82 x83 x84 = some s85 ∧ Fits [(6, .pointer (some ⟨b30, 0, none⟩)), (12, .pointer (some ⟨b72, 0, none⟩)), (41, .slice a25 x2.length p26), (42, .int .i64 (x2.length : Int)), (43, .int .i64 x73)] ρ ∧ St E [rR t_api_Order .b a25 p26 x2.length x2, rB b30 [.int .i64 0, .int .i64 0, .slice none 0 0, .int .i64 0, .bool false, .bool false] 24, rO t_api_Cell .i a77 p78 n79 x76, rB b72 [.int .i64 x74, .int .i64 x75, .slice a77 n79 p78, .int .i64 x81, .bool x82, .bool x83, .int .i64 x84] 111] I h) (fun ρ h => ∃ (x86 : Int) (x87 : Int) (x88 : List api_Cell) (x93 : Int) (x94 : Bool) (x95 : Bool) (x96 : Int) (a89 : Option Addr) (p90 : Nat) (n91 : Nat) (I : Gh), (x86, x87, x88, x93, x94, x95, x96) = s85 ∧ Fits [(6, .pointer (some ⟨b30, 0, none⟩)), (12, .pointer (some ⟨b72, 0, none⟩))] ρ ∧ St E [rB b30 [.int .i64 0, .int .i64 0, .slice none 0 0, .int .i64 0, .bool false, .bool false] 24, rO t_api_Cell .i a89 p90 n91 x88, rB b72 [.int .i64 x86, .int .i64 x87, .slice a89 n91 p90, .int .i64 x93, .bool x94, .bool x95, .int .i64 x96] 111] I h) K ⟨0, t67.Rows, t67.Cols, t67.Cells, t67.Cursor, t67.Locked, t67.Insert, x1, a68, p69, t67.Cells.length, I, m98, ⟨by kernel_rfl, by kernel_rfl, by kernel_rfl, by kernel_rfl, by kernel_rfl, trivial⟩, hs.pk (.c d2 (.c d4 (.c d1 (.c d0 .n))))⟩ ?_ rfl ?_
  ·clear HR97 m98 H
   rintro k' ρ h ⟨x73, x74, x75, x76, x81, x82, x83, x84, a77, p78, n79, I, H, hf, hs⟩
   cases k' with
   | zero => cases H
   | succ k =>
    rw [paint_All.l2.m] at H
    refine k_fits _ hf ?_ rfl
    obtain rfl := hs.nO d2
    refine st 1 [] ?_
    obtain ⟨j101, e118, H⟩ := letJ_some H
    refine k_join (fun ρ h => ∃ (x100 : Bool) (I : Gh), j101 x100 = some s85 ∧ Fits [(6, .pointer (some ⟨b30, 0, none⟩)), (12, .pointer (some ⟨b72, 0, none⟩)), (41, .slice a25 x2.length p26), (42, .int .i64 (x2.length : Int)), (43, .int .i64 x73), (44, .bool x100)] ρ ∧ St E [rR t_api_Order .b a25 p26 x2.length x2, rB b30 [.int .i64 0, .int .i64 0, .slice none 0 0, .int .i64 0, .bool false, .bool false] 24, rO t_api_Cell .i a77 p78 x76.length x76, rB b72 [.int .i64 x74, .int .i64 x75, .slice a77 x76.length p78, .int .i64 x81, .bool x82, .bool x83, .int .i64 x84] 111] I h) ?_ ?_
    ·refine st 1 [] (k_ite H (fun c99 H => ?_) (fun c99 H => ?_))
     ·refine st 1 [] ?_
      exact k_end ⟨true, I, H, ⟨by kernel_rfl, by kernel_rfl, by kernel_rfl, by kernel_rfl, by kernel_rfl, by kernel_rfl, trivial⟩, hs.pk (.c d0 (.c d0 (.c d0 (.c d0 .n))))⟩
     ·refine st 1 [] ?_
      exact k_end ⟨false, I, H, ⟨by kernel_rfl, by kernel_rfl, by kernel_rfl, by kernel_rfl, by kernel_rfl, by kernel_rfl, trivial⟩, hs.pk (.c d0 (.c d0 (.c d0 (.c d0 .n))))⟩
    ·clear H
     rintro ρ h ⟨x100, I, H, hf, hs⟩
     refine k_fits _ hf ?_ rfl
     subst e118
     try dsimp only at H
     cases x100
     ·rw [cond_false] at H
      refine st 2 [false] ?_
      refine k_out rfl ?_
      obtain rfl := Option.some.inj H
      exact xE ⟨x74, x75, x76, x81, x82, x83, x84, a77, p78, x76.length, I, rfl, ⟨by kernel_rfl, by kernel_rfl, trivial⟩, hs.pk (.c d1 (.c d1 (.c d1 .n)))⟩
     ·rw [cond_true] at H
      obtain ⟨c102, H⟩ := guard_pos H
      obtain ⟨c103, H⟩ := guard_pos H
      refine st 7 [true] (k_val (elemPtr a25 (x73.toNat * 8)) (pI (e := 76) (ik := .i64) (hs.sR d0) c102 c103) ?_)
      obtain ⟨y105, g104, q106⟩ := (hs.sR d0).toSl.seg c102 c103
      obtain ⟨a107, p108, n109, rfl, q111⟩ := t_api_Order.open_ q106
      obtain rfl := q111.2
      replace hs := hs.pR q111
      refine k_op (lG g104 ?_)
      refine k_op (nA hs [.int .i64 0, .slice none 0 0, .bool false, .bool false, .int .i64 0, .bool false, .int .i64 0, .int .u8 0] (.agg #[.int .i64 0, .slice none 0 0, .bool false, .bool false, .int .i64 0, .bool false, .int .i64 0, .int .u8 0]) ?_)
      intro b112 h hs
      refine k_op (sN hs 0 [.int .i64 ((at_ x2 x73).Kind), .slice a107 (((at_ x2 x73).Text).length) p108, .bool (((at_ x2 x73).Attr).Protected), .bool (((at_ x2 x73).Attr).Numeric), .int .i64 (((at_ x2 x73).Attr).Show), .bool (((at_ x2 x73).Attr).Modified), .int .i64 ((at_ x2 x73).Addr), .int .u8 ((at_ x2 x73).Char)] [.int .i64 ((at_ x2 x73).Kind), .slice a107 (((at_ x2 x73).Text).length) p108, .bool (((at_ x2 x73).Attr).Protected), .bool (((at_ x2 x73).Attr).Numeric), .int .i64 (((at_ x2 x73).Attr).Show), .bool (((at_ x2 x73).Attr).Modified), .int .i64 ((at_ x2 x73).Addr), .int .u8 ((at_ x2 x73).Char)] (ones_of rfl) ?_)
      intro h hs
      refine st 3 [] (k_op (lN (hs.bl d0) 0 8 ?_))
      obtain ⟨hk, bk⟩ := ((hs.f d4).f d5).call tk2 (.c (qB d1) .n)
      refine k_call H (fun _ m => paint_brush_do.calls m hk) ?_
      rintro t113 _ h H ⟨I, _, ⟨a114, p115, n116, rfl, rfl⟩, hk⟩
      replace hs := bk hk ct2 rfl
      obtain rfl := hs.nO d1
      refine st 6 [] ?_
      exact k_endL ⟨k, Nat.lt_succ_self _, (w64 (x73 + 1)), t113.s'.Rows, t113.s'.Cols, t113.s'.Cells, t113.s'.Cursor, t113.s'.Locked, t113.s'.Insert, t113.at', a114, p115, t113.s'.Cells.length, I, H, ⟨by kernel_rfl, by kernel_rfl, by kernel_rfl, by kernel_rfl, by kernel_rfl, trivial⟩, hs.pk (.c d4 (.c d4 (.c d1 (.c d0 .n))))⟩
  ·rintro ρ h ⟨x86, x87, x88, x93, x94, x95, x96, a89, p90, n91, I, rfl, hf, hs⟩
   have H := HR97
   try dsimp only at H
   refine k_fits _ hf ?_ rfl
   obtain rfl := hs.nO d1
   refine st 1 [] ?_
   obtain ⟨hs0, bk0⟩ := hs.call tk1 (.c (qL d1) .n)
   have hs := hs0
   refine k_regD hs0 9 ?_
   refine aRun [0, 1, 2] 8 hs.keep ?_
   refine aG 3 rfl hs.keep (lls hs0 d1 0 6 rfl) (nmL hs0 d1) ?_
   refine aRun [4, 5, 6] 4 hs.keep ?_
   refine aL 7 rfl hs.keep (ll hs0 d1 (n := 6) rfl) (nmL hs0 d1) ?_
   refine aO1 8 rfl (sN hs 0 [.int .i64 x86, .int .i64 x87, .slice a89 x88.length p90, .int .i64 x93, .bool x94, .bool x95] [.int .i64 x86, .int .i64 x87, .slice a89 x88.length p90, .int .i64 x93, .bool x94, .bool x95] (ones_of rfl) ?_)
   intro h hs
   refine ⟨hs.keep, ?_⟩
   replace hs := hs.pk (.c d0 .n)
   replace hs := bk0 hs ct1 rfl
   refine aOL 9 rfl (owp_pure (.int .i64 x96) (by kernel_rfl) ?_)
   refine aOL 10 rfl (owp_pure .nilIface (by kernel_rfl) ?_)
   refine aEnd ?_
   refine k_retQ ?_
   obtain rfl := Option.some.inj H
   obtain ⟨I, hs⟩ := (hs.f d1).fO
   exact ⟨[.agg #[.int .i64 x86, .int .i64 x87, .slice a89 x88.length p90, .int .i64 x93, .bool x94, .bool x95], .int .i64 x96, .nilIface], (.cons (.agg (by kernel_rfl) (by kernel_rfl) (by kernel_rfl) ((hs.bl d1).seg_ 0 6 (Nat.le_of_ble_eq_true rfl))) (.cons (.tmp (by kernel_rfl)) (.cons (.tmp (by kernel_rfl)) .nil))), I, _, ⟨a89, p90, x88.length, (.nilIface), rfl, rfl⟩, hs.pk (.c d0 (.f imEN .n))⟩

/-! shutter/shutterref10.Same -/
def shutterref10_Same.l1.m (K : Nat) (x0 : api_Screen) (x1 : api_Screen) : Nat → Int → Option (Bool ⊕ (Unit))
  | 0, _ => none
  | k + 1, x37 => (if x37 < (x0.Cells.length : Int) then (if 0 ≤ x37 then (if x37 < (x1.Cells.length : Int) then (bif (((at_ x0.Cells x37).Field == (at_ x1.Cells x37).Field) && (((((at_ x0.Cells x37).Attr).Protected == ((at_ x1.Cells x37).Attr).Protected) && ((((at_ x0.Cells x37).Attr).Numeric == ((at_ x1.Cells x37).Attr).Numeric) && ((((at_ x0.Cells x37).Attr).Show == ((at_ x1.Cells x37).Attr).Show) && ((((at_ x0.Cells x37).Attr).Modified == ((at_ x1.Cells x37).Attr).Modified) && true)))) && (((at_ x0.Cells x37).Char == (at_ x1.Cells x37).Char) && true))) then (shutterref10_Same.l1.m K x0 x1 k (w64 (x37 + 1))) else (some (Sum.inl false))) else none) else none) else (some (Sum.inr ())))
def shutterref10_Same.m (K : Nat) (x0 : api_Screen) (x1 : api_Screen) : Option Bool :=
  (if x0.Rows = x1.Rows then (if x0.Cols = x1.Cols then (if x0.Cursor = x1.Cursor then (bif (x0.Locked != x1.Locked) then (some false) else (bif (x0.Insert != x1.Insert) then (some false) else (if (x0.Cells.length : Int) = (x1.Cells.length : Int) then ((shutterref10_Same.l1.m K x0 x1 K 0).bind fun s38 => match s38 with | .inl q => (some q) | .inr _ => (some true)) else (some false)))) else (some false)) else (some false)) else (some false))

theorem shutterref10_Same.calls {B I : Gh} {h : Heap} {K : Nat} {x0 : api_Screen} {x1 : api_Screen} {a21 : Option Addr} {p22 : Nat} {n23 : Nat} {a25 : Option Addr} {p26 : Nat} {n27 : Nat} {r : Bool} (H : shutterref10_Same.m K x0 x1 = some r)  :
    Fc Tryz.prog 24 #[.agg #[.int .i64 x0.Rows, .int .i64 x0.Cols, .slice a21 n23 p22, .int .i64 x0.Cursor, .bool x0.Locked, .bool x0.Insert], .agg #[.int .i64 x1.Rows, .int .i64 x1.Cols, .slice a25 n27 p26, .int .i64 x1.Cursor, .bool x1.Locked, .bool x1.Insert]] [rR t_api_Cell .b a21 p22 n23 x0.Cells, rR t_api_Cell .b a25 p26 n27 x1.Cells] B I h (fun v L => v = .bool r ∧ L = []) := by
 refine fc_of fun E hs => ?_
 unfold shutterref10_Same.m at H
 obtain rfl := hs.nR d0
 obtain rfl := hs.nR d1
 refine fn_of (args := [.agg #[.int .i64 x0.Rows, .int .i64 x0.Cols, .slice a21 x0.Cells.length p22, .int .i64 x0.Cursor, .bool x0.Locked, .bool x0.Insert], .agg #[.int .i64 x1.Rows, .int .i64 x1.Cols, .slice a25 x1.Cells.length p26, .int .i64 x1.Cursor, .bool x1.Locked, .bool x1.Insert]]) (rs := [.tmp 4]) (N := 66) Tryz.func24 rfl rfl rfl rfl ?_
 refine st 2 [] (k_op (nB hs [.int .i64 x0.Rows, .int .i64 x0.Cols, .slice a21 x0.Cells.length p22, .int .i64 x0.Cursor, .bool x0.Locked, .bool x0.Insert] ?_))
 intro b29 h hs
 refine k_op (nB hs [.int .i64 x1.Rows, .int .i64 x1.Cols, .slice a25 x1.Cells.length p26, .int .i64 x1.Cursor, .bool x1.Locked, .bool x1.Insert] ?_)
 intro b30 h hs
 refine st 6 [] (k_op (lB (hs.bl d1) 0 rfl ?_))
 refine st 1 [] (k_op (lB (hs.bl d0) 0 rfl ?_))
 refine k_iteN H (fun c31 H => ?_) (fun c31 H => ?_)
 ·refine st 2 [] (k_op (lB (hs.bl d1) 1 rfl ?_))
  refine st 1 [] (k_op (lB (hs.bl d0) 1 rfl ?_))
  refine k_iteN H (fun c32 H => ?_) (fun c32 H => ?_)
  ·refine st 3 [] (k_op (lB (hs.bl d1) 3 rfl ?_))
   refine st 1 [] (k_op (lB (hs.bl d0) 3 rfl ?_))
   refine k_iteN H (fun c33 H => ?_) (fun c33 H => ?_)
   ·refine st 3 [] (k_op (lB (hs.bl d1) 4 rfl ?_))
    refine st 1 [] (k_op (lB (hs.bl d0) 4 rfl ?_))
    refine k_if H (fun c34 H => ?_) (fun c34 H => ?_)
    ·refine st 23 [true] ?_
     refine k_retQ ?_
     obtain rfl := Option.some.inj H
     exact ⟨_, by kernel_rfl, I, _, ⟨rfl, rfl⟩, hs.pk .n⟩
    ·refine st 3 [] (k_op (lB (hs.bl d1) 5 rfl ?_))
     refine st 1 [] (k_op (lB (hs.bl d0) 5 rfl ?_))
     refine k_if H (fun c35 H => ?_) (fun c35 H => ?_)
     ·refine st 16 [true] ?_
      refine k_retQ ?_
      obtain rfl := Option.some.inj H
      exact ⟨_, by kernel_rfl, I, _, ⟨rfl, rfl⟩, hs.pk .n⟩
     ·refine st 3 [] (k_op (lB (hs.bl d1) 2 rfl ?_))
      refine st 2 [] (k_op (lB (hs.bl d0) 2 rfl ?_))
      refine st 1 [] (k_iteN H (fun c36 H => ?_) (fun c36 H => ?_))
      ·refine st 10 [false] ?_
       obtain ⟨s38, m40, HR39⟩ := bind_some H
       refine k_loop 0 (fun k' ρ h => ∃ (x37 : Int) (I : Gh), shutterref10_Same.l1.m K x0 x1 k' x37 = some s38 ∧ Fits [(2, .pointer (some ⟨b29, 0, none⟩)), (3, .pointer (some ⟨b30, 0, none⟩)), (5, .int .i64 x37)] ρ ∧ St E [rR t_api_Cell .b a21 p22 x0.Cells.length x0.Cells, rB b29 [.int .i64 x0.Rows, .int .i64 x0.Cols, .slice a21 x0.Cells.length p22, .int .i64 x0.Cursor, .bool x0.Locked, .bool x0.Insert] 24, rR t_api_Cell .b a25 p26 x1.Cells.length x1.Cells, rB b30 [.int .i64 x1.Rows, .int .i64 x1.Cols, .slice a25 x1.Cells.length p26, .int .i64 x1.Cursor, .bool x1.Locked, .bool x1.Insert] 24] I h) (fun ρ h => ∃ (I : Gh), Sum.inr () = s38 ∧ Fits [] ρ ∧ St E [] I h) K ⟨0, I, m40, ⟨by kernel_rfl, by kernel_rfl, by kernel_rfl, trivial⟩, hs.pk (.c d2 (.c d1 (.c d1 (.c d0 .n))))⟩ ?_ rfl ?_
       ·clear m40 H
        rintro k' ρ h ⟨x37, I, H, hf, hs⟩
        cases k' with
        | zero => cases H
        | succ k =>
         rw [shutterref10_Same.l1.m] at H
         refine k_fits _ hf ?_ rfl
         refine st 5 [] (k_op (lB (hs.bl d1) 2 rfl ?_))
         refine st 1 [] (k_ite H (fun c41 H => ?_) (fun c41 H => ?_))
         ·refine st 6 [true] ?_
          obtain ⟨hs0, bk0⟩ := hs.call tk0 (.c (qL d1) (.c (qB d0) (.c (qL d3) (.c (qB d2) .n))))
          have hs := hs0
          refine k_regD hs0 11 ?_
          refine aRun [0] 10 hs.keep ?_
          refine aL 1 rfl hs.keep (ll hs0 d0 (n := 2) rfl) (nmL hs0 d0) ?_
          obtain ⟨c42, H⟩ := guard_pos H
          refine aRun [2] 8 hs.keep ?_
          refine aP 3 (elemPtr a21 (x37.toNat * 6)) rfl (pI (e := 57) (ik := .i64) (hs.sR d1) c42 c41) hs.keep ?_
          obtain ⟨y44, g43, q45⟩ := (hs0.sR d1).toSl.seg c42 c41
          obtain rfl := t_api_Cell.open_ q45
          refine aG 4 rfl hs.keep g43 (nmR hs0 d1 c42 c41) ?_
          refine aRun [5] 5 hs.keep ?_
          refine aL 6 rfl hs.keep (ll hs0 d2 (n := 2) rfl) (nmL hs0 d2) ?_
          obtain ⟨c46, H⟩ := guard_pos H
          refine aRun [7] 3 hs.keep ?_
          refine aP 8 (elemPtr a25 (x37.toNat * 6)) rfl (pI (e := 57) (ik := .i64) (hs.sR d3) c42 c46) hs.keep ?_
          obtain ⟨y48, g47, q49⟩ := (hs0.sR d3).toSl.seg c42 c46
          obtain rfl := t_api_Cell.open_ q49
          refine aG 9 rfl hs.keep g47 (nmR hs0 d3 c42 c46) ?_
          rcases bool_or (((at_ x0.Cells x37).Field == (at_ x1.Cells x37).Field) && (((((at_ x0.Cells x37).Attr).Protected == ((at_ x1.Cells x37).Attr).Protected) && ((((at_ x0.Cells x37).Attr).Numeric == ((at_ x1.Cells x37).Attr).Numeric) && ((((at_ x0.Cells x37).Attr).Show == ((at_ x1.Cells x37).Attr).Show) && ((((at_ x0.Cells x37).Attr).Modified == ((at_ x1.Cells x37).Attr).Modified) && true)))) && (((at_ x0.Cells x37).Char == (at_ x1.Cells x37).Char) && true))) with c50 | c50
          ·replace H := bif_f c50 H
           refine awp_runv 10 (.bool true) rfl (by kernel_rfl) (by kernel_rfl) (run_bool (run_neAgg (xs := #[.bool ((at_ x0.Cells x37).Field), .bool (((at_ x0.Cells x37).Attr).Protected), .bool (((at_ x0.Cells x37).Attr).Numeric), .int .i64 (((at_ x0.Cells x37).Attr).Show), .bool (((at_ x0.Cells x37).Attr).Modified), .int .u8 ((at_ x0.Cells x37).Char)]) (ys := #[.bool ((at_ x1.Cells x37).Field), .bool (((at_ x1.Cells x37).Attr).Protected), .bool (((at_ x1.Cells x37).Attr).Numeric), .int .i64 (((at_ x1.Cells x37).Attr).Show), .bool (((at_ x1.Cells x37).Attr).Modified), .int .u8 ((at_ x1.Cells x37).Char)]) (by kernel_rfl) (by kernel_rfl) (by kernel_rfl) (eqB_run (b := (((at_ x0.Cells x37).Field == (at_ x1.Cells x37).Field) && (((((at_ x0.Cells x37).Attr).Protected == ((at_ x1.Cells x37).Attr).Protected) && ((((at_ x0.Cells x37).Attr).Numeric == ((at_ x1.Cells x37).Attr).Numeric) && ((((at_ x0.Cells x37).Attr).Show == ((at_ x1.Cells x37).Attr).Show) && ((((at_ x0.Cells x37).Attr).Modified == ((at_ x1.Cells x37).Attr).Modified) && true)))) && (((at_ x0.Cells x37).Char == (at_ x1.Cells x37).Char) && true)))) (by kernel_rfl))) (notB c50)) hs.keep ?_
           replace hs := hs.pk .n
           replace hs := bk0 hs ct0 rfl
           refine aEnd ?_
           refine st 5 [true] ?_
           refine k_retQ (krL ?_)
           obtain rfl := Option.some.inj H
           obtain rfl := Option.some.inj HR39
           exact ⟨_, by kernel_rfl, I, _, ⟨rfl, rfl⟩, hs.pk .n⟩
          ·replace H := bif_t c50 H
           refine awp_runv 10 (.bool false) rfl (by kernel_rfl) (by kernel_rfl) (run_bool (run_neAgg (xs := #[.bool ((at_ x0.Cells x37).Field), .bool (((at_ x0.Cells x37).Attr).Protected), .bool (((at_ x0.Cells x37).Attr).Numeric), .int .i64 (((at_ x0.Cells x37).Attr).Show), .bool (((at_ x0.Cells x37).Attr).Modified), .int .u8 ((at_ x0.Cells x37).Char)]) (ys := #[.bool ((at_ x1.Cells x37).Field), .bool (((at_ x1.Cells x37).Attr).Protected), .bool (((at_ x1.Cells x37).Attr).Numeric), .int .i64 (((at_ x1.Cells x37).Attr).Show), .bool (((at_ x1.Cells x37).Attr).Modified), .int .u8 ((at_ x1.Cells x37).Char)]) (by kernel_rfl) (by kernel_rfl) (by kernel_rfl) (eqB_run (b := (((at_ x0.Cells x37).Field == (at_ x1.Cells x37).Field) && (((((at_ x0.Cells x37).Attr).Protected == ((at_ x1.Cells x37).Attr).Protected) && ((((at_ x0.Cells x37).Attr).Numeric == ((at_ x1.Cells x37).Attr).Numeric) && ((((at_ x0.Cells x37).Attr).Show == ((at_ x1.Cells x37).Attr).Show) && ((((at_ x0.Cells x37).Attr).Modified == ((at_ x1.Cells x37).Attr).Modified) && true)))) && (((at_ x0.Cells x37).Char == (at_ x1.Cells x37).Char) && true)))) (by kernel_rfl))) (notB c50)) hs.keep ?_
           replace hs := hs.pk .n
           replace hs := bk0 hs ct0 rfl
           refine aEnd ?_
           refine st 8 [false] ?_
           exact k_endL ⟨k, Nat.lt_succ_self _, (w64 (x37 + 1)), I, H, ⟨by kernel_rfl, by kernel_rfl, by kernel_rfl, trivial⟩, hs.pk (.c d0 (.c d0 (.c d0 (.c d0 .n))))⟩
         ·refine st 2 [false] ?_
          refine k_out rfl ?_
          obtain rfl := Option.some.inj H
          exact xE ⟨I, rfl, trivial, hs.pk .n⟩
       ·rintro ρ h ⟨I, rfl, hf, hs⟩
        have H := HR39
        try dsimp only at H
        refine k_fits _ hf ?_ rfl
        refine st 4 [] ?_
        refine k_retQ ?_
        obtain rfl := Option.some.inj H
        exact ⟨_, by kernel_rfl, I, _, ⟨rfl, rfl⟩, hs.pk .n⟩
      ·refine st 7 [true] ?_
       refine k_retQ ?_
       obtain rfl := Option.some.inj H
       exact ⟨_, by kernel_rfl, I, _, ⟨rfl, rfl⟩, hs.pk .n⟩
   ·refine st 30 [true] ?_
    refine k_retQ ?_
    obtain rfl := Option.some.inj H
    exact ⟨_, by kernel_rfl, I, _, ⟨rfl, rfl⟩, hs.pk .n⟩
  ·refine st 37 [true] ?_
   refine k_retQ ?_
   obtain rfl := Option.some.inj H
   exact ⟨_, by kernel_rfl, I, _, ⟨rfl, rfl⟩, hs.pk .n⟩
 ·refine st 43 [true] ?_
  refine k_retQ ?_
  obtain rfl := Option.some.inj H
  exact ⟨_, by kernel_rfl, I, _, ⟨rfl, rfl⟩, hs.pk .n⟩

/-! shutter/shutterlaw18.ReadImage -/
def shutterlaw18_ReadImage.m (K : Nat) (x0 : api_Screen) : Option Bool :=
  ((shutterlaw18_awake.m K).bind fun t26 => bif t26 then ((shutterref10_Few.m K x0).bind fun t27 => bif t27 then ((read_Reply.m K x0 242 0).bind fun t28 => ((stream_Read.m K t28.1 (x0.Cells.length : Int)).bind fun t35 => ((grid_New.m x0.Rows x0.Cols).bind fun t43 => ((paint_All.m K t43.1 0 t35.1.Orders).bind fun t51 => (if t28.2 = GoErr.nil then (if t35.2 = GoErr.nil then (if t43.2 = GoErr.nil then (if t51.2.2 = GoErr.nil then (if t51.2.1 = x0.Cursor then ((shutterref10_Same.m K (⟨t51.1.Rows, t51.1.Cols, t51.1.Cells, t51.1.Cursor, x0.Locked, x0.Insert⟩ : api_Screen) x0).bind fun t72 => (some t72)) else (some false)) else (some false)) else (some false)) else (some false)) else (some false)))))) else ((shutterlaw18_awake.m K).bind fun t73 => (some t73))) else ((shutterlaw18_awake.m K).bind fun t74 => (some t74)))

theorem shutterlaw18_ReadImage.calls {B I : Gh} {h : Heap} {K : Nat} {x0 : api_Screen} {a21 : Option Addr} {p22 : Nat} {n23 : Nat} {r : Bool} (H : shutterlaw18_ReadImage.m K x0 = some r)  :
    Fc Tryz.prog 5 #[.agg #[.int .i64 x0.Rows, .int .i64 x0.Cols, .slice a21 n23 p22, .int .i64 x0.Cursor, .bool x0.Locked, .bool x0.Insert]] [rR t_api_Cell .b a21 p22 n23 x0.Cells, rG] B I h (fun v L => v = .bool r ∧ L = []) := by
 refine fc_of fun E hs => ?_
 unfold shutterlaw18_ReadImage.m at H
 obtain rfl := hs.nR d0
 refine fn_of (args := [.agg #[.int .i64 x0.Rows, .int .i64 x0.Cols, .slice a21 x0.Cells.length p22, .int .i64 x0.Cursor, .bool x0.Locked, .bool x0.Insert]]) (rs := [.tmp 2]) (N := 78) Tryz.func5 rfl rfl rfl rfl ?_
 refine st 2 [] (k_op (nB hs [.int .i64 x0.Rows, .int .i64 x0.Cols, .slice a21 x0.Cells.length p22, .int .i64 x0.Cursor, .bool x0.Locked, .bool x0.Insert] ?_))
 intro b25 h hs
 obtain ⟨hk, bk⟩ := hs.call tk0 (.c (gK d2) .n)
 refine st 5 [] (k_call H (fun _ m => shutterlaw18_awake.calls m hk) ?_)
 rintro t26 _ h H ⟨I, _, ⟨rfl, rfl⟩, hk⟩
 replace hs := bk hk ct0 rfl
 cases t26
 ·rw [cond_false] at H
  obtain ⟨hk, bk⟩ := hs.call tk0 (.c (gK d2) .n)
  refine st 10 [true] (k_call H (fun _ m => shutterlaw18_awake.calls m hk) ?_)
  rintro t74 _ h H ⟨I, _, ⟨rfl, rfl⟩, hk⟩
  replace hs := bk hk ct0 rfl
  refine st 2 [] ?_
  refine k_retQ ?_
  obtain rfl := Option.some.inj H
  exact ⟨_, by kernel_rfl, I, _, ⟨rfl, rfl⟩, hs.pk .n⟩
 ·rw [cond_true] at H
  refine st 2 [] (k_op (lN (hs.bl d0) 0 6 ?_))
  obtain ⟨hk, bk⟩ := hs.call tk0 (.c (qB d1) .n)
  refine k_call H (fun _ m => shutterref10_Few.calls m hk) ?_
  rintro t27 _ h H ⟨I, _, ⟨rfl, rfl⟩, hk⟩
  replace hs := bk hk ct0 rfl
  cases t27
  ·rw [cond_false] at H
   obtain ⟨hk, bk⟩ := hs.call tk0 (.c (gK d2) .n)
   refine st 6 [true] (k_call H (fun _ m => shutterlaw18_awake.calls m hk) ?_)
   rintro t73 _ h H ⟨I, _, ⟨rfl, rfl⟩, hk⟩
   replace hs := bk hk ct0 rfl
   refine st 2 [] ?_
   refine k_retQ ?_
   obtain rfl := Option.some.inj H
   exact ⟨_, by kernel_rfl, I, _, ⟨rfl, rfl⟩, hs.pk .n⟩
  ·rw [cond_true] at H
   refine st 7 [false] (k_op (lN (hs.bl d0) 0 6 ?_))
   obtain ⟨hk, bk⟩ := hs.call tk0 (.c (qB d1) .n)
   refine k_call H (fun _ m => read_Reply.calls m hk) ?_
   rintro t28 _ h H ⟨I, _, ⟨a29, p30, n31, v33, rfl, rfl⟩, hk⟩
   replace hs := bk hk ct2 rfl
   obtain rfl := hs.nO d0
   refine st 10 [] (k_op (lB (hs.bl d2) 2 rfl ?_))
   obtain ⟨hk, bk⟩ := hs.call tk0 (.c (qO d0) .n)
   refine st 1 [] (k_call H (fun _ m => stream_Read.calls m hk) ?_)
   rintro t35 _ h H ⟨I, _, ⟨a36, p37, n38, v40, rfl, rfl⟩, hk⟩
   replace hs := bk hk ct2 rfl
   obtain rfl := hs.nO d0
   refine st 3 [] (k_op (nA hs [.int .i64 0, .bool false, .bool false, .bool false, .slice none 0 0] (.agg #[.int .i64 0, .bool false, .bool false, .bool false, .slice none 0 0]) ?_))
   intro b42 h hs
   refine k_op (sN hs 0 [.int .i64 t35.1.Cmd, .bool t35.1.Wcc.Alarm, .bool t35.1.Wcc.Unlock, .bool t35.1.Wcc.Reset, .slice a36 t35.1.Orders.length p37] [.int .i64 t35.1.Cmd, .bool t35.1.Wcc.Alarm, .bool t35.1.Wcc.Unlock, .bool t35.1.Wcc.Reset, .slice a36 t35.1.Orders.length p37] (ones_of rfl) ?_)
   intro h hs
   refine st 5 [] (k_op (lB (hs.bl d5) 0 rfl ?_))
   refine st 1 [] (k_op (lB (hs.bl d5) 1 rfl ?_))
   obtain ⟨hk, bk⟩ := hs.call tk0 .n
   refine k_call H (fun _ m => grid_New.calls m hk) ?_
   rintro t43 _ h H ⟨I, _, ⟨a44, p45, n46, v48, rfl, rfl⟩, hk⟩
   replace hs := bk hk ct2 rfl
   obtain rfl := hs.nO d0
   refine st 3 [] (k_op (nA hs [.int .i64 0, .int .i64 0, .slice none 0 0, .int .i64 0, .bool false, .bool false] (.agg #[.int .i64 0, .int .i64 0, .slice none 0 0, .int .i64 0, .bool false, .bool false]) ?_))
   intro b50 h hs
   refine k_op (sN hs 0 [.int .i64 t43.1.Rows, .int .i64 t43.1.Cols, .slice a44 t43.1.Cells.length p45, .int .i64 t43.1.Cursor, .bool t43.1.Locked, .bool t43.1.Insert] [.int .i64 t43.1.Rows, .int .i64 t43.1.Cols, .slice a44 t43.1.Cells.length p45, .int .i64 t43.1.Cursor, .bool t43.1.Locked, .bool t43.1.Insert] (ones_of rfl) ?_)
   intro h hs
   refine st 4 [] (k_op (lN (hs.bl d0) 0 6 ?_))
   refine st 1 [] (k_op (lB (hs.bl d3) 4 rfl ?_))
   obtain ⟨I, hs⟩ := (hs.f d1).fO
   obtain ⟨hk, bk⟩ := hs.call tk0 (.c (qK d0) (.c (qO d4) .n))
   refine k_call H (fun _ m => paint_All.calls m hk) ?_
   rintro t51 _ h H ⟨I, _, ⟨a52, p53, n54, v56, rfl, rfl⟩, hk⟩
   replace hs := bk hk ct2 rfl
   obtain rfl := hs.nR d0
   refine st 4 [] (k_op (nA hs [.int .i64 0, .int .i64 0, .slice none 0 0, .int .i64 0, .bool false, .bool false] (.agg #[.int .i64 0, .int .i64 0, .slice none 0 0, .int .i64 0, .bool false, .bool false]) ?_))
   intro b58 h hs
   refine k_op (sN hs 0 [.int .i64 t51.1.Rows, .int .i64 t51.1.Cols, .slice a52 t51.1.Cells.length p53, .int .i64 t51.1.Cursor, .bool t51.1.Locked, .bool t51.1.Insert] [.int .i64 t51.1.Rows, .int .i64 t51.1.Cols, .slice a52 t51.1.Cells.length p53, .int .i64 t51.1.Cursor, .bool t51.1.Locked, .bool t51.1.Insert] (ones_of rfl) ?_)
   intro h hs
   rcases (hs.er d10).cases with ⟨c59, rfl⟩ | ⟨c59, t60, u61, rfl⟩
   ·rw [if_pos c59] at H
    rcases (hs.er d8).cases with ⟨c62, rfl⟩ | ⟨c62, t63, u64, rfl⟩
    ·rw [if_pos c62] at H
     rcases (hs.er d5).cases with ⟨c65, rfl⟩ | ⟨c65, t66, u67, rfl⟩
     ·rw [if_pos c65] at H
      rcases (hs.er d2).cases with ⟨c68, rfl⟩ | ⟨c68, t69, u70, rfl⟩
      ·rw [if_pos c68] at H
       refine st 23 [] (k_op (lB (hs.bl d11) 3 rfl ?_))
       refine k_iteN H (fun c71 H => ?_) (fun c71 H => ?_)
       ·refine st 7 [false] (k_op (lB (hs.bl d11) 4 rfl ?_))
        refine st 1 [] (k_op (sB (v := .bool x0.Locked) hs cw4 ?_))
        intro h hs
        refine st 4 [] (k_op (lB (hs.bl d11) 5 rfl ?_))
        refine st 1 [] (k_op (sB (v := .bool x0.Insert) hs cw5 ?_))
        intro h hs
        refine st 3 [] (k_op (lN (hs.bl d0) 0 6 ?_))
        refine k_op (lN (hs.bl d11) 0 6 ?_)
        obtain ⟨hk, bk⟩ := hs.call tk0 (.c (qI d1) (.c (qB d12) .n))
        refine k_call H (fun _ m => shutterref10_Same.calls m hk) ?_
        rintro t72 _ h H ⟨I, _, ⟨rfl, rfl⟩, hk⟩
        replace hs := bk hk ct0 rfl
        refine st 2 [] ?_
        refine k_retQ ?_
        obtain rfl := Option.some.inj H
        exact ⟨_, by kernel_rfl, I, _, ⟨rfl, rfl⟩, hs.pk .n⟩
       ·refine st 7 [true] ?_
        refine k_retQ ?_
        obtain rfl := Option.some.inj H
        exact ⟨_, by kernel_rfl, I, _, ⟨rfl, rfl⟩, hs.pk .n⟩
      ·rw [if_neg c68] at H
       refine st 32 [true] ?_
       refine k_retQ ?_
       obtain rfl := Option.some.inj H
       exact ⟨_, by kernel_rfl, I, _, ⟨rfl, rfl⟩, hs.pk .n⟩
     ·rw [if_neg c65] at H
      refine st 32 [true] ?_
      refine k_retQ ?_
      obtain rfl := Option.some.inj H
      exact ⟨_, by kernel_rfl, I, _, ⟨rfl, rfl⟩, hs.pk .n⟩
    ·rw [if_neg c62] at H
     refine st 32 [true] ?_
     refine k_retQ ?_
     obtain rfl := Option.some.inj H
     exact ⟨_, by kernel_rfl, I, _, ⟨rfl, rfl⟩, hs.pk .n⟩
   ·rw [if_neg c59] at H
    refine st 32 [true] ?_
    refine k_retQ ?_
    obtain rfl := Option.some.inj H
    exact ⟨_, by kernel_rfl, I, _, ⟨rfl, rfl⟩, hs.pk .n⟩

end Go.Proofs.YtfbcjibdgicaoaaGreatDoor.Sx
