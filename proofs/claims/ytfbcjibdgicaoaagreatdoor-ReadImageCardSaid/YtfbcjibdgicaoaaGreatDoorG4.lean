/- Printed walks, part 4: each function's model, and that the code comes to it. -/
import Derived.Test.YtfbcjibdgicaoaaGreatDoorProg
import Derived.Test.YtfbcjibdgicaoaaGreatDoorV4
import Derived.Test.YtfbcjibdgicaoaaGreatDoorVF
import Derived.Test.YtfbcjibdgicaoaaGreatDoorV6
import Derived.Test.YtfbcjibdgicaoaaGreatDoorV7
import Derived.Test.YtfbcjibdgicaoaaGreatDoorG3
namespace Go.Proofs.YtfbcjibdgicaoaaGreatDoor.Sx
open Go
set_option maxRecDepth 100000
set_option maxHeartbeats 4000000

/-! shutter/shutterref18.Modified -/
def shutterref18_Modified.l1.m (K : Nat) (x0 : api_Screen) : Nat → (List Int) → Int → Option ((List Int))
  | 0, _, _ => none
  | k + 1, x32, x37 => (if x37 < (x0.Cells.length : Int) then (letJ (α := Bool → Option ((List Int))) (fun (x52 : Bool) => (bif x52 then (if 0 ≤ x37 then ((app x32 [(at_ x0.Cells x37).Char]).bind fun l60 => (shutterref18_Modified.l1.m K x0 k l60 (w64 (x37 + 1)))) else none) else (shutterref18_Modified.l1.m K x0 k x32 (w64 (x37 + 1))))) fun (j53 : Bool → Option ((List Int))) => (if 0 ≤ x37 then ((shutterref09_Letter.m ((at_ x0.Cells x37).Char)).bind fun t51 => bif t51 then (j53 true) else (j53 false)) else none)) else (some (x32)))
def shutterref18_Modified.l3.m (K : Nat) (x0 : api_Screen) (t102 : (List Int)) : Nat → Int → Int → (List Int) → Option (Int × (List Int))
  | 0, _, _, _ => none
  | k + 1, x109, x110, x111 => (if x109 < (t102.length : Int) then (letJ (α := Bool → Option (Int × (List Int))) (fun (x133 : Bool) => (bif x133 then (if 0 ≤ x109 then (if 0 ≤ (at_ t102 x109) then (if (at_ t102 x109) < (x0.Cells.length : Int) then ((app x111 [(at_ x0.Cells (at_ t102 x109)).Char]).bind fun l143 => (shutterref18_Modified.l3.m K x0 t102 k (w64 (x109 + 1)) x110 l143)) else none) else none) else none) else (shutterref18_Modified.l3.m K x0 t102 k (w64 (x109 + 1)) x110 x111))) fun (j134 : Bool → Option (Int × (List Int))) => (if 0 ≤ x109 then (if 0 ≤ (at_ t102 x109) then (if (at_ t102 x109) < (x0.Cells.length : Int) then (if (at_ x0.Cells (at_ t102 x109)).Char = 0 then (j134 false) else (j134 true)) else none) else none) else none)) else (some ((x110, x111))))
def shutterref18_Modified.l2.m (K : Nat) (x0 : api_Screen) : Nat → Int → Int → Int → (List api_Entry) → Option (Int × Int × (List api_Entry))
  | 0, _, _, _, _ => none
  | k + 1, x77, x78, x79, x80 => (if x77 < (x0.Cells.length : Int) then (if 0 ≤ x77 then (bif (at_ x0.Cells x77).Field then (bif ((at_ x0.Cells x77).Attr).Modified then ((shutterref11_Cells.m K x0 x77).bind fun t102 => ((shutterref10_Next.m x0 x77).bind fun t107 => ((shutterref18_Modified.l3.m K x0 t102 K 0 t107 []).bind fun (x117, x118) => ((app x80 [(⟨x117, x118⟩ : api_Entry)]).bind fun l151 => (shutterref18_Modified.l2.m K x0 k (w64 (x77 + 1)) x78 x79 l151))))) else (shutterref18_Modified.l2.m K x0 k (w64 (x77 + 1)) x78 x79 x80)) else (shutterref18_Modified.l2.m K x0 k (w64 (x77 + 1)) x78 x79 x80)) else none) else (some ((x78, x79, x80))))
def shutterref18_Modified.m (K : Nat) (x0 : api_Screen) (x1 : Int) : Option api_In :=
  ((shutterref05_Bare.m x1).bind fun t27 => bif t27 then (some (⟨x1, 0, []⟩ : api_In)) else (letJ (α := Bool → Option api_In) (fun (x30 : Bool) => (bif x30 then ((shutterref18_Modified.l1.m K x0 K [] 0).bind fun x39 => (letJ (α := Bool → Option api_In) (fun (x67 : Bool) => (bif x67 then ((app ([] : List api_Entry) [(⟨(-1), x39⟩ : api_Entry)]).bind fun l71 => (some (⟨x1, x0.Cursor, l71⟩ : api_In))) else (some (⟨x1, x0.Cursor, []⟩ : api_In)))) fun (j68 : Bool → Option api_In) => (if (x39.length : Int) > 0 then (j68 true) else (j68 false)))) else ((shutterref18_Modified.l2.m K x0 K 0 x1 x0.Cursor []).bind fun (x86, x87, x88) => (some (⟨x86, x87, x88⟩ : api_In))))) fun (j31 : Bool → Option api_In) => ((shutterref11_Formatted.m K x0).bind fun t29 => bif t29 then (j31 false) else (j31 true))))

theorem shutterref18_Modified.calls {B I : Gh} {h : Heap} {K : Nat} {x0 : api_Screen} {x1 : Int} {a21 : Option Addr} {p22 : Nat} {n23 : Nat} {r : api_In} (H : shutterref18_Modified.m K x0 x1 = some r)  :
    Fc Tryz.prog 15 #[.agg #[.int .i64 x0.Rows, .int .i64 x0.Cols, .slice a21 n23 p22, .int .i64 x0.Cursor, .bool x0.Locked, .bool x0.Insert], .int .u8 x1] [rR t_api_Cell .b a21 p22 n23 x0.Cells] B I h (fun v L => ∃ (a157 : Option Addr) (p158 : Nat) (n159 : Nat), v = .agg #[.int .u8 r.Aid, .int .i64 r.Cursor, .slice a157 n159 p158] ∧ L = [rO t_api_Entry .i a157 p158 n159 r.Fields]) := by
 refine fc_of fun E hs => ?_
 unfold shutterref18_Modified.m at H
 obtain rfl := hs.nR d0
 refine fn_of2 (args := [.agg #[.int .i64 x0.Rows, .int .i64 x0.Cols, .slice a21 x0.Cells.length p22, .int .i64 x0.Cursor, .bool x0.Locked, .bool x0.Insert], .int .u8 x1]) (rs := [.cell 4 46]) (N := 125) Tryz.func15 rfl rfl rfl rfl ?_
 refine st 2 [] (k_op (nB hs [.int .i64 x0.Rows, .int .i64 x0.Cols, .slice a21 x0.Cells.length p22, .int .i64 x0.Cursor, .bool x0.Locked, .bool x0.Insert] ?_))
 intro b25 h hs
 refine k_op (nA hs [.int .u8 0, .int .i64 0, .slice none 0 0] (.agg #[.int .u8 0, .int .i64 0, .slice none 0 0]) ?_)
 intro b26 h hs
 refine st 5 [] (k_call H (fun _ m => shutterref05_Bare.calls m) ?_)
 rintro t27 _ _ H ⟨rfl, rfl⟩
 cases t27
 ·rw [cond_false] at H
  refine st 7 [false] (k_op (lB (hs.bl d1) 3 rfl ?_))
  refine st 1 [] (k_op (nA hs [.int .u8 0, .int .i64 0, .slice none 0 0] (.agg #[.int .u8 0, .int .i64 0, .slice none 0 0]) ?_))
  intro b28 h hs
  refine k_op (sN hs 0 [.int .u8 x1, .int .i64 x0.Cursor, .slice none 0 0] [.int .u8 x1, .int .i64 x0.Cursor, .slice none 0 0] (ones_of rfl) ?_)
  intro h hs
  refine st 3 [] ?_
  obtain ⟨j31, e156, H⟩ := letJ_some H
  refine k_join (fun ρ h => ∃ (x30 : Bool) (I : Gh), j31 x30 = some r ∧ Fits [(2, .pointer (some ⟨b25, 0, none⟩)), (4, .pointer (some ⟨b26, 0, none⟩)), (5, .pointer (some ⟨b28, 0, none⟩)), (22, .bool x30)] ρ ∧ St E [rR t_api_Cell .b a21 p22 x0.Cells.length x0.Cells, rB b25 [.int .i64 x0.Rows, .int .i64 x0.Cols, .slice a21 x0.Cells.length p22, .int .i64 x0.Cursor, .bool x0.Locked, .bool x0.Insert] 24, rB b26 [.int .u8 0, .int .i64 0, .slice none 0 0] 46, rB b28 [.int .u8 x1, .int .i64 x0.Cursor, .slice none 0 0] 46] I h) ?_ ?_
  ·refine st 1 [] (k_op (lN (hs.bl d2) 0 6 ?_))
   obtain ⟨hk, bk⟩ := hs.call tk0 (.c (qB d3) .n)
   refine k_call H (fun _ m => shutterref11_Formatted.calls m hk) ?_
   rintro t29 _ h H ⟨I, _, ⟨rfl, rfl⟩, hk⟩
   replace hs := bk hk ct0 rfl
   cases t29
   ·rw [cond_false] at H
    refine st 2 [] ?_
    exact k_end ⟨true, I, H, ⟨by kernel_rfl, by kernel_rfl, by kernel_rfl, by kernel_rfl, trivial⟩, hs.pk (.c d3 (.c d2 (.c d1 (.c d0 .n))))⟩
   ·rw [cond_true] at H
    refine st 2 [] ?_
    exact k_end ⟨false, I, H, ⟨by kernel_rfl, by kernel_rfl, by kernel_rfl, by kernel_rfl, trivial⟩, hs.pk (.c d3 (.c d2 (.c d1 (.c d0 .n))))⟩
  ·clear H
   rintro ρ h ⟨x30, I, H, hf, hs⟩
   refine k_fits _ hf ?_ rfl
   subst e156
   try dsimp only at H
   cases x30
   ·rw [cond_false] at H
    refine st 8 [false] ?_
    obtain ⟨s85, m94, HR93⟩ := bind_some H
    refine k_loop 2 (fun k' ρ h => ∃ (x77 : Int) (x78 : Int) (x79 : Int) (x80 : List api_Entry) (a81 : Option Addr) (p82 : Nat) (n83 : Nat) (I : Gh), shutterref18_Modified.l2.m K x0 k' x77 x78 x79 x80 = some s85 ∧ Fits [(2, .pointer (some ⟨b25, 0, none⟩)), (4, .pointer (some ⟨b26, 0, none⟩)), (5, .pointer (some ⟨b28, 0, none⟩)), (8, .int .i64 x77)] ρ ∧ St E [rR t_api_Cell .b a21 p22 x0.Cells.length x0.Cells, rB b25 [.int .i64 x0.Rows, .int .i64 x0.Cols, .slice a21 x0.Cells.length p22, .int .i64 x0.Cursor, .bool x0.Locked, .bool x0.Insert] 24, rB b26 [.int .u8 0, .int .i64 0, .slice none 0 0] 46, rO t_api_Entry .i a81 p82 n83 x80, rB b28 [.int .u8 x78, .int .i64 x79, .slice a81 n83 p82] 46] I h) (fun ρ h => ∃ (x86 : Int) (x87 : Int) (x88 : List api_Entry) (a89 : Option Addr) (p90 : Nat) (n91 : Nat) (I : Gh), (x86, x87, x88) = s85 ∧ Fits [(4, .pointer (some ⟨b26, 0, none⟩)), (5, .pointer (some ⟨b28, 0, none⟩))] ρ ∧ St E [rB b26 [.int .u8 0, .int .i64 0, .slice none 0 0] 46, rO t_api_Entry .i a89 p90 n91 x88, rB b28 [.int .u8 x86, .int .i64 x87, .slice a89 n91 p90] 46] I h) K ⟨0, x1, x0.Cursor, [], none, 0, 0, I, m94, ⟨by kernel_rfl, by kernel_rfl, by kernel_rfl, by kernel_rfl, trivial⟩, hs.pk (.c d0 (.c d0 (.c d0 (.f imON (.c d0 .n)))))⟩ ?_ rfl ?_
    ·clear HR93 m94 H
     rintro k' ρ h ⟨x77, x78, x79, x80, a81, p82, n83, I, H, hf, hs⟩
     cases k' with
     | zero => cases H
     | succ k =>
      rw [shutterref18_Modified.l2.m] at H
      refine k_fits _ hf ?_ rfl
      obtain rfl := hs.nO d3
      refine st 5 [] (k_op (lB (hs.bl d1) 2 rfl ?_))
      refine st 1 [] (k_ite H (fun c95 H => ?_) (fun c95 H => ?_))
      ·refine st 9 [true] (k_op (lB (hs.bl d1) 2 rfl ?_))
       obtain ⟨c96, H⟩ := guard_pos H
       refine st 1 [] (k_val (elemPtr a21 (x77.toNat * 6)) (pI (e := 57) (ik := .i64) (hs.sR d0) c96 c95) ?_)
       refine k_val (elemPtr a21 (x77.toNat * 6 + 0)) (pF (off := 0) (hs.sR d0) c96 c95) ?_
       obtain ⟨y98, g97, q99⟩ := (hs.sR d0).toSl.seg c96 c95
       obtain rfl := t_api_Cell.open_ q99
       refine k_op (lC (seg_cell (f := 0) g97 rfl) ?_)
       refine k_spl H (fun c100 H => ?_) (fun c100 H => ?_)
       ·refine st 3 [] (k_op (lB (hs.bl d1) 2 rfl ?_))
        refine st 1 [] (k_val (elemPtr a21 (x77.toNat * 6)) (pI (e := 57) (ik := .i64) (hs.sR d0) c96 c95) ?_)
        refine k_val (elemPtr a21 (x77.toNat * 6 + 1)) (pF (off := 1) (hs.sR d0) c96 c95) ?_
        refine k_val (elemPtr a21 (x77.toNat * 6 + 1 + 3)) (pF (off := 3) (hs.sR d0) c96 c95) ?_
        refine k_op (lC (seg_cell (f := 4) g97 rfl) ?_)
        refine k_spl H (fun c101 H => ?_) (fun c101 H => ?_)
        ·refine st 7 [false] (k_op (lN (hs.bl d1) 0 6 ?_))
         obtain ⟨hk, bk⟩ := hs.call tk0 (.c (qB d0) .n)
         refine st 1 [] (k_call H (fun _ m => shutterref11_Cells.calls m hk) ?_)
         rintro t102 _ h H ⟨I, _, ⟨a103, p104, n105, rfl, rfl⟩, hk⟩
         replace hs := bk hk ct1 rfl
         obtain rfl := hs.nO d0
         refine st 4 [] (k_op (lN (hs.bl d2) 0 6 ?_))
         obtain ⟨hk, bk⟩ := hs.call tk0 (.c (qB d1) .n)
         refine st 1 [] (k_call H (fun _ m => shutterref10_Next.calls m hk) ?_)
         rintro t107 _ h H ⟨I, _, ⟨rfl, rfl⟩, hk⟩
         replace hs := bk hk ct0 rfl
         refine st 1 [] (k_op (nA hs [.int .i64 0, .slice none 0 0] (.agg #[.int .i64 0, .slice none 0 0]) ?_))
         intro b108 h hs
         refine k_op (sN hs 0 [.int .i64 t107, .slice none 0 0] [.int .i64 t107, .slice none 0 0] (ones_of rfl) ?_)
         intro h hs
         refine st 7 [] ?_
         obtain ⟨s116, m124, HR123⟩ := bind_some H
         refine k_loop 4 (fun k' ρ h => ∃ (x109 : Int) (x110 : Int) (x111 : List Int) (a112 : Option Addr) (p113 : Nat) (n114 : Nat) (I : Gh), shutterref18_Modified.l3.m K x0 t102 k' x109 x110 x111 = some s116 ∧ Fits [(2, .pointer (some ⟨b25, 0, none⟩)), (4, .pointer (some ⟨b26, 0, none⟩)), (5, .pointer (some ⟨b28, 0, none⟩)), (8, .int .i64 x77), (9, .slice a103 t102.length p104), (10, .pointer (some ⟨b108, 0, none⟩)), (11, .int .i64 x109), (72, .pointer (some ⟨b25, 2, none⟩)), (73, .slice a21 x0.Cells.length p22), (74, .int .i64 x77), (78, .bool true), (79, .bool false)] ρ ∧ St E [rO (tInt .i64) .i a103 p104 t102.length t102, rR t_api_Cell .b a21 p22 x0.Cells.length x0.Cells, rB b25 [.int .i64 x0.Rows, .int .i64 x0.Cols, .slice a21 x0.Cells.length p22, .int .i64 x0.Cursor, .bool x0.Locked, .bool x0.Insert] 24, rB b26 [.int .u8 0, .int .i64 0, .slice none 0 0] 46, rO t_api_Entry .i a81 p82 x80.length x80, rB b28 [.int .u8 x78, .int .i64 x79, .slice a81 x80.length p82] 46, rO (tInt .u8) .i a112 p113 n114 x111, rB b108 [.int .i64 x110, .slice a112 n114 p113] 67] I h) (fun ρ h => ∃ (x117 : Int) (x118 : List Int) (a119 : Option Addr) (p120 : Nat) (n121 : Nat) (I : Gh), (x117, x118) = s116 ∧ Fits [(2, .pointer (some ⟨b25, 0, none⟩)), (4, .pointer (some ⟨b26, 0, none⟩)), (5, .pointer (some ⟨b28, 0, none⟩)), (8, .int .i64 x77), (10, .pointer (some ⟨b108, 0, none⟩)), (72, .pointer (some ⟨b25, 2, none⟩)), (73, .slice a21 x0.Cells.length p22), (74, .int .i64 x77), (78, .bool true), (79, .bool false)] ρ ∧ St E [rR t_api_Cell .b a21 p22 x0.Cells.length x0.Cells, rB b25 [.int .i64 x0.Rows, .int .i64 x0.Cols, .slice a21 x0.Cells.length p22, .int .i64 x0.Cursor, .bool x0.Locked, .bool x0.Insert] 24, rB b26 [.int .u8 0, .int .i64 0, .slice none 0 0] 46, rO t_api_Entry .i a81 p82 x80.length x80, rB b28 [.int .u8 x78, .int .i64 x79, .slice a81 x80.length p82] 46, rO (tInt .u8) .i a119 p120 n121 x118, rB b108 [.int .i64 x117, .slice a119 n121 p120] 67] I h) K ⟨0, t107, [], none, 0, 0, I, m124, ⟨by kernel_rfl, by kernel_rfl, by kernel_rfl, by kernel_rfl, by kernel_rfl, by kernel_rfl, by kernel_rfl, by kernel_rfl, by kernel_rfl, by kernel_rfl, by kernel_rfl, by kernel_rfl, trivial⟩, hs.pk (.c d1 (.c d1 (.c d1 (.c d1 (.c d1 (.c d1 (.f imON (.c d0 .n))))))))⟩ ?_ rfl ?_
         ·clear HR123 m124 H
          rintro k' ρ h ⟨x109, x110, x111, a112, p113, n114, I, H, hf, hs⟩
          cases k' with
          | zero => cases H
          | succ k =>
           rw [shutterref18_Modified.l3.m] at H
           refine k_fits _ hf ?_ rfl
           obtain rfl := hs.nO d6
           refine st 6 [] (k_ite H (fun c125 H => ?_) (fun c125 H => ?_))
           ·refine st 6 [true] ?_
            obtain ⟨j134, e148, H⟩ := letJ_some H
            refine k_join (fun ρ h => ∃ (x133 : Bool) (I : Gh), j134 x133 = some s116 ∧ Fits [(2, .pointer (some ⟨b25, 0, none⟩)), (4, .pointer (some ⟨b26, 0, none⟩)), (5, .pointer (some ⟨b28, 0, none⟩)), (8, .int .i64 x77), (9, .slice a103 t102.length p104), (10, .pointer (some ⟨b108, 0, none⟩)), (11, .int .i64 x109), (72, .pointer (some ⟨b25, 2, none⟩)), (73, .slice a21 x0.Cells.length p22), (74, .int .i64 x77), (78, .bool true), (79, .bool false), (103, .bool x133)] ρ ∧ St E [rO (tInt .i64) .i a103 p104 t102.length t102, rR t_api_Cell .b a21 p22 x0.Cells.length x0.Cells, rB b25 [.int .i64 x0.Rows, .int .i64 x0.Cols, .slice a21 x0.Cells.length p22, .int .i64 x0.Cursor, .bool x0.Locked, .bool x0.Insert] 24, rB b26 [.int .u8 0, .int .i64 0, .slice none 0 0] 46, rO t_api_Entry .i a81 p82 x80.length x80, rB b28 [.int .u8 x78, .int .i64 x79, .slice a81 x80.length p82] 46, rO (tInt .u8) .i a112 p113 x111.length x111, rB b108 [.int .i64 x110, .slice a112 x111.length p113] 67] I h) ?_ ?_
            ·obtain ⟨hs0, bk0⟩ := hs.call tk0 (.c (qL d2) (.c (qO d0) (.c (qB d1) .n)))
             have hs := hs0
             refine k_regD hs0 10 ?_
             refine aRun [0] 9 hs.keep ?_
             refine aL 1 rfl hs.keep (ll hs0 d0 (n := 2) rfl) (nmL hs0 d0) ?_
             obtain ⟨c126, H⟩ := guard_pos H
             refine aRun [2, 3] 6 hs.keep ?_
             refine aP 4 (elemPtr a103 (x109.toNat * 1)) rfl (pI (e := 3) (ik := .i64) (hs.sR d1) c126 c125) hs.keep ?_
             refine aL 5 rfl hs.keep ((hs0.sR d1).cell1 c126 c125) (nmR hs0 d1 c126 c125) ?_
             obtain ⟨c127, H⟩ := guard_pos H
             obtain ⟨c128, H⟩ := guard_pos H
             refine aP 6 (elemPtr a21 ((at_ t102 x109).toNat * 6)) rfl (pI (e := 57) (ik := .i64) (hs.sR d2) c127 c128) hs.keep ?_
             refine aP 7 (elemPtr a21 ((at_ t102 x109).toNat * 6 + 5)) rfl (pF (off := 5) (hs.sR d2) c127 c128) hs.keep ?_
             obtain ⟨y130, g129, q131⟩ := (hs0.sR d2).toSl.seg c127 c128
             obtain rfl := t_api_Cell.open_ q131
             refine aL 8 rfl hs.keep (seg_cell (f := 5) g129 rfl) (nmR hs0 d2 c127 c128) ?_
             by_cases c132 : (at_ x0.Cells (at_ t102 x109)).Char = 0
             ·rw [if_pos c132] at H
              refine aP 9 (.bool false) rfl (pr_bool (by kernel_rfl) (neF c132)) hs.keep ?_
              replace hs := hs.pk .n
              replace hs := bk0 hs ct0 rfl
              refine aEnd ?_
              exact k_end ⟨false, I, H, ⟨by kernel_rfl, by kernel_rfl, by kernel_rfl, by kernel_rfl, by kernel_rfl, by kernel_rfl, by kernel_rfl, by kernel_rfl, by kernel_rfl, by kernel_rfl, by kernel_rfl, by kernel_rfl, by kernel_rfl, trivial⟩, hs.pk (.c d0 (.c d0 (.c d0 (.c d0 (.c d0 (.c d0 (.c d0 (.c d0 .n))))))))⟩
             ·rw [if_neg c132] at H
              refine aP 9 (.bool true) rfl (pr_bool (by kernel_rfl) (neT c132)) hs.keep ?_
              replace hs := hs.pk .n
              replace hs := bk0 hs ct0 rfl
              refine aEnd ?_
              exact k_end ⟨true, I, H, ⟨by kernel_rfl, by kernel_rfl, by kernel_rfl, by kernel_rfl, by kernel_rfl, by kernel_rfl, by kernel_rfl, by kernel_rfl, by kernel_rfl, by kernel_rfl, by kernel_rfl, by kernel_rfl, by kernel_rfl, trivial⟩, hs.pk (.c d0 (.c d0 (.c d0 (.c d0 (.c d0 (.c d0 (.c d0 (.c d0 .n))))))))⟩
            ·clear H
             rintro ρ h ⟨x133, I, H, hf, hs⟩
             refine k_fits _ hf ?_ rfl
             subst e148
             try dsimp only at H
             cases x133
             ·rw [cond_false] at H
              refine st 8 [false] ?_
              exact k_endL ⟨k, Nat.lt_succ_self _, (w64 (x109 + 1)), x110, x111, a112, p113, x111.length, I, H, ⟨by kernel_rfl, by kernel_rfl, by kernel_rfl, by kernel_rfl, by kernel_rfl, by kernel_rfl, by kernel_rfl, by kernel_rfl, by kernel_rfl, by kernel_rfl, by kernel_rfl, by kernel_rfl, trivial⟩, hs.pk (.c d0 (.c d0 (.c d0 (.c d0 (.c d0 (.c d0 (.c d0 (.c d0 .n))))))))⟩
             ·rw [cond_true] at H
              refine st 1 [true] ?_
              obtain ⟨hs0, bk0⟩ := hs.call tk0 (.c (qL d7) (.c (qL d2) (.c (qO d0) (.c (qB d1) .n))))
              have hs := hs0
              refine k_regD hs0 12 ?_
              refine aRun [0] 14 hs.keep ?_
              refine aL 1 rfl hs.keep (ll hs0 d0 (n := 1) rfl) (nmL hs0 d0) ?_
              refine aRun [2] 12 hs.keep ?_
              refine aL 3 rfl hs.keep (ll hs0 d1 (n := 2) rfl) (nmL hs0 d1) ?_
              obtain ⟨c135, H⟩ := guard_pos H
              refine aRun [4, 5] 9 hs.keep ?_
              refine aP 6 (elemPtr a103 (x109.toNat * 1)) rfl (pI (e := 3) (ik := .i64) (hs.sR d2) c135 c125) hs.keep ?_
              refine aL 7 rfl hs.keep ((hs0.sR d2).cell1 c135 c125) (nmR hs0 d2 c135 c125) ?_
              obtain ⟨c136, H⟩ := guard_pos H
              obtain ⟨c137, H⟩ := guard_pos H
              refine aP 8 (elemPtr a21 ((at_ t102 x109).toNat * 6)) rfl (pI (e := 57) (ik := .i64) (hs.sR d3) c136 c137) hs.keep ?_
              refine aP 9 (elemPtr a21 ((at_ t102 x109).toNat * 6 + 5)) rfl (pF (off := 5) (hs.sR d3) c136 c137) hs.keep ?_
              obtain ⟨y139, g138, q140⟩ := (hs0.sR d3).toSl.seg c136 c137
              obtain rfl := t_api_Cell.open_ q140
              refine aL 10 rfl hs.keep (seg_cell (f := 5) g138 rfl) (nmR hs0 d3 c136 c137) ?_
              refine aO1 11 rfl (nS (e := 5) hs .i (tInt .u8) ([(at_ x0.Cells (at_ t102 x109)).Char] : List Int) [.int .u8 ((at_ x0.Cells (at_ t102 x109)).Char)] 1 (.int .u8 0) (Reps.int (I := (Cl.G .i E.B I)) (k := .u8) (l := [(at_ x0.Cells (at_ t102 x109)).Char])) ?_)
              intro b141 h hs
              refine ⟨hs.keep, ?_⟩
              replace hs := hs.pk (.c d0 .n)
              replace hs := bk0 hs ct1 rfl
              replace hs := (hs.f d7)
              obtain ⟨l143, m144, H⟩ := bind_some H
              refine aOL 12 rfl (aO (e := 5) (bytes := 1) hs (hs.sO d1) m144 ?_)
              intro a145 p146 h hs
              refine aOL 13 rfl (owp_pure (.pointer (some ⟨b108, 1, none⟩)) (by kernel_rfl) ?_)
              refine aOL 14 rfl (sB (v := .slice a145 l143.length p146) (hs.f d8) cw1 ?_)
              intro h hs
              refine aEnd ?_
              refine st 6 [] ?_
              exact k_endL ⟨k, Nat.lt_succ_self _, (w64 (x109 + 1)), x110, l143, a145, p146, l143.length, I, H, ⟨by kernel_rfl, by kernel_rfl, by kernel_rfl, by kernel_rfl, by kernel_rfl, by kernel_rfl, by kernel_rfl, by kernel_rfl, by kernel_rfl, by kernel_rfl, by kernel_rfl, by kernel_rfl, trivial⟩, hs.pk (.c d3 (.c d3 (.c d3 (.c d3 (.c d3 (.c d3 (.c d1 (.c d0 .n))))))))⟩
           ·refine st 2 [false] ?_
            refine k_out rfl ?_
            obtain rfl := Option.some.inj H
            exact xE ⟨x110, x111, a112, p113, x111.length, I, rfl, ⟨by kernel_rfl, by kernel_rfl, by kernel_rfl, by kernel_rfl, by kernel_rfl, by kernel_rfl, by kernel_rfl, by kernel_rfl, by kernel_rfl, by kernel_rfl, trivial⟩, hs.pk (.c d1 (.c d1 (.c d1 (.c d1 (.c d1 (.c d1 (.c d1 .n)))))))⟩
         ·rintro ρ h ⟨x117, x118, a119, p120, n121, I, rfl, hf, hs⟩
          have H := HR123
          try dsimp only at H
          refine k_fits _ hf ?_ rfl
          obtain rfl := hs.nO d5
          refine st 2 [] (k_op (lB (hs.bl d4) 2 rfl ?_))
          refine k_op (lN (hs.bl d6) 0 2 ?_)
          obtain ⟨I, hs⟩ := (hs.f d5).fO
          refine k_op (nS (e := 67) hs .i t_api_Entry ([(⟨x117, x118⟩ : api_Entry)] : List api_Entry) [.int .i64 x117, .slice a119 x118.length p120] 2 (.agg #[.int .i64 0, .slice none 0 0]) (Reps.cons (T := t_api_Entry) (c := [.int .i64 x117, .slice a119 x118.length p120]) (x := (⟨x117, x118⟩ : api_Entry)) ⟨_, _, _, rfl, (hs.g d0)⟩ (.nil : Reps t_api_Entry (Cl.G .i E.B I) h [] [])) ?_)
          intro b149 h hs
          replace hs := (hs.f d5)
          obtain ⟨l151, m152, H⟩ := bind_some H
          refine k_op (aO (e := 67) (bytes := 32) hs (hs.sO d1) m152 ?_)
          intro a153 p154 h hs
          refine st 1 [] (k_op (sB (v := .slice a153 l151.length p154) (hs.f d6) cw2 ?_))
          intro h hs
          refine st 7 [] ?_
          exact k_endL ⟨k, Nat.lt_succ_self _, (w64 (x77 + 1)), x78, x79, l151, a153, p154, l151.length, I, H, ⟨by kernel_rfl, by kernel_rfl, by kernel_rfl, by kernel_rfl, trivial⟩, hs.pk (.c d4 (.c d4 (.c d4 (.c d1 (.c d0 .n)))))⟩
        ·refine st 10 [true] ?_
         exact k_endL ⟨k, Nat.lt_succ_self _, (w64 (x77 + 1)), x78, x79, x80, a81, p82, x80.length, I, H, ⟨by kernel_rfl, by kernel_rfl, by kernel_rfl, by kernel_rfl, trivial⟩, hs.pk (.c d0 (.c d0 (.c d0 (.c d0 (.c d0 .n)))))⟩
       ·refine st 19 [true] ?_
        exact k_endL ⟨k, Nat.lt_succ_self _, (w64 (x77 + 1)), x78, x79, x80, a81, p82, x80.length, I, H, ⟨by kernel_rfl, by kernel_rfl, by kernel_rfl, by kernel_rfl, trivial⟩, hs.pk (.c d0 (.c d0 (.c d0 (.c d0 (.c d0 .n)))))⟩
      ·refine st 2 [false] ?_
       refine k_out rfl ?_
       obtain rfl := Option.some.inj H
       exact xE ⟨x78, x79, x80, a81, p82, x80.length, I, rfl, ⟨by kernel_rfl, by kernel_rfl, trivial⟩, hs.pk (.c d2 (.c d2 (.c d2 .n)))⟩
    ·rintro ρ h ⟨x86, x87, x88, a89, p90, n91, I, rfl, hf, hs⟩
     have H := HR93
     try dsimp only at H
     refine k_fits _ hf ?_ rfl
     obtain rfl := hs.nO d1
     refine st 2 [] (k_op (lN (hs.bl d2) 0 3 ?_))
     refine k_op (sN hs 0 [.int .u8 x86, .int .i64 x87, .slice a89 x88.length p90] [.int .u8 x86, .int .i64 x87, .slice a89 x88.length p90] (ones_of rfl) ?_)
     intro h hs
     refine st 1 [] ?_
     refine k_retQ ?_
     obtain rfl := Option.some.inj H
     exact ⟨[.agg #[.int .u8 x86, .int .i64 x87, .slice a89 x88.length p90]], (.cons (.agg (by kernel_rfl) (by kernel_rfl) (by kernel_rfl) ((hs.bl d0).seg_ 0 3 (Nat.le_of_ble_eq_true rfl))) .nil), I, _, ⟨a89, p90, x88.length, rfl, rfl⟩, hs.pk (.c d1 .n)⟩
   ·rw [cond_true] at H
    refine st 11 [true] ?_
    obtain ⟨s38, m45, HR44⟩ := bind_some H
    refine k_loop 0 (fun k' ρ h => ∃ (x32 : List Int) (x37 : Int) (a33 : Option Addr) (p34 : Nat) (n35 : Nat) (I : Gh), shutterref18_Modified.l1.m K x0 k' x32 x37 = some s38 ∧ Fits [(2, .pointer (some ⟨b25, 0, none⟩)), (4, .pointer (some ⟨b26, 0, none⟩)), (5, .pointer (some ⟨b28, 0, none⟩)), (6, .slice a33 n35 p34), (7, .int .i64 x37)] ρ ∧ St E [rO (tInt .u8) .i a33 p34 n35 x32, rR t_api_Cell .b a21 p22 x0.Cells.length x0.Cells, rB b25 [.int .i64 x0.Rows, .int .i64 x0.Cols, .slice a21 x0.Cells.length p22, .int .i64 x0.Cursor, .bool x0.Locked, .bool x0.Insert] 24, rB b26 [.int .u8 0, .int .i64 0, .slice none 0 0] 46, rB b28 [.int .u8 x1, .int .i64 x0.Cursor, .slice none 0 0] 46] I h) (fun ρ h => ∃ (x39 : List Int) (a40 : Option Addr) (p41 : Nat) (n42 : Nat) (I : Gh), x39 = s38 ∧ Fits [(4, .pointer (some ⟨b26, 0, none⟩)), (5, .pointer (some ⟨b28, 0, none⟩)), (6, .slice a40 n42 p41)] ρ ∧ St E [rO (tInt .u8) .i a40 p41 n42 x39, rB b26 [.int .u8 0, .int .i64 0, .slice none 0 0] 46, rB b28 [.int .u8 x1, .int .i64 x0.Cursor, .slice none 0 0] 46] I h) K ⟨[], 0, none, 0, 0, I, m45, ⟨by kernel_rfl, by kernel_rfl, by kernel_rfl, by kernel_rfl, by kernel_rfl, trivial⟩, hs.pk (.f imON (.c d0 (.c d0 (.c d0 (.c d0 .n)))))⟩ ?_ rfl ?_
    ·clear HR44 m45 H
     rintro k' ρ h ⟨x32, x37, a33, p34, n35, I, H, hf, hs⟩
     cases k' with
     | zero => cases H
     | succ k =>
      rw [shutterref18_Modified.l1.m] at H
      refine k_fits _ hf ?_ rfl
      obtain rfl := hs.nO d0
      refine st 5 [] (k_op (lB (hs.bl d2) 2 rfl ?_))
      refine st 1 [] (k_ite H (fun c46 H => ?_) (fun c46 H => ?_))
      ·refine st 6 [true] ?_
       obtain ⟨j53, e65, H⟩ := letJ_some H
       refine k_join (fun ρ h => ∃ (x52 : Bool) (I : Gh), j53 x52 = some s38 ∧ Fits [(2, .pointer (some ⟨b25, 0, none⟩)), (4, .pointer (some ⟨b26, 0, none⟩)), (5, .pointer (some ⟨b28, 0, none⟩)), (6, .slice a33 x32.length p34), (7, .int .i64 x37), (36, .bool x52)] ρ ∧ St E [rO (tInt .u8) .i a33 p34 x32.length x32, rR t_api_Cell .b a21 p22 x0.Cells.length x0.Cells, rB b25 [.int .i64 x0.Rows, .int .i64 x0.Cols, .slice a21 x0.Cells.length p22, .int .i64 x0.Cursor, .bool x0.Locked, .bool x0.Insert] 24, rB b26 [.int .u8 0, .int .i64 0, .slice none 0 0] 46, rB b28 [.int .u8 x1, .int .i64 x0.Cursor, .slice none 0 0] 46] I h) ?_ ?_
       ·refine st 2 [] (k_op (lB (hs.bl d2) 2 rfl ?_))
        obtain ⟨c47, H⟩ := guard_pos H
        refine st 1 [] (k_val (elemPtr a21 (x37.toNat * 6)) (pI (e := 57) (ik := .i64) (hs.sR d1) c47 c46) ?_)
        refine k_val (elemPtr a21 (x37.toNat * 6 + 5)) (pF (off := 5) (hs.sR d1) c47 c46) ?_
        obtain ⟨y49, g48, q50⟩ := (hs.sR d1).toSl.seg c47 c46
        obtain rfl := t_api_Cell.open_ q50
        refine k_op (lC (seg_cell (f := 5) g48 rfl) ?_)
        refine k_call H (fun _ m => shutterref09_Letter.calls m) ?_
        rintro t51 _ _ H ⟨rfl, rfl⟩
        cases t51
        ·rw [cond_false] at H
         refine st 1 [] ?_
         exact k_end ⟨false, I, H, ⟨by kernel_rfl, by kernel_rfl, by kernel_rfl, by kernel_rfl, by kernel_rfl, by kernel_rfl, trivial⟩, hs.pk (.c d0 (.c d0 (.c d0 (.c d0 (.c d0 .n)))))⟩
        ·rw [cond_true] at H
         refine st 1 [] ?_
         exact k_end ⟨true, I, H, ⟨by kernel_rfl, by kernel_rfl, by kernel_rfl, by kernel_rfl, by kernel_rfl, by kernel_rfl, trivial⟩, hs.pk (.c d0 (.c d0 (.c d0 (.c d0 (.c d0 .n)))))⟩
       ·clear H
        rintro ρ h ⟨x52, I, H, hf, hs⟩
        refine k_fits _ hf ?_ rfl
        subst e65
        try dsimp only at H
        cases x52
        ·rw [cond_false] at H
         refine st 8 [false] ?_
         exact k_endL ⟨k, Nat.lt_succ_self _, x32, (w64 (x37 + 1)), a33, p34, x32.length, I, H, ⟨by kernel_rfl, by kernel_rfl, by kernel_rfl, by kernel_rfl, by kernel_rfl, trivial⟩, hs.pk (.c d0 (.c d0 (.c d0 (.c d0 (.c d0 .n)))))⟩
        ·rw [cond_true] at H
         refine st 4 [true] (k_op (lB (hs.bl d2) 2 rfl ?_))
         obtain ⟨c54, H⟩ := guard_pos H
         refine st 1 [] (k_val (elemPtr a21 (x37.toNat * 6)) (pI (e := 57) (ik := .i64) (hs.sR d1) c54 c46) ?_)
         refine k_val (elemPtr a21 (x37.toNat * 6 + 5)) (pF (off := 5) (hs.sR d1) c54 c46) ?_
         obtain ⟨y56, g55, q57⟩ := (hs.sR d1).toSl.seg c54 c46
         obtain rfl := t_api_Cell.open_ q57
         refine k_op (lC (seg_cell (f := 5) g55 rfl) ?_)
         refine k_op (nS (e := 5) hs .i (tInt .u8) ([(at_ x0.Cells x37).Char] : List Int) [.int .u8 ((at_ x0.Cells x37).Char)] 1 (.int .u8 0) (Reps.int (I := (Cl.G .i E.B I)) (k := .u8) (l := [(at_ x0.Cells x37).Char])) ?_)
         intro b58 h hs
         replace hs := (hs.f d1)
         obtain ⟨l60, m61, H⟩ := bind_some H
         refine k_op (aO (e := 5) (bytes := 1) hs (hs.sO d1) m61 ?_)
         intro a62 p63 h hs
         refine st 8 [] ?_
         exact k_endL ⟨k, Nat.lt_succ_self _, l60, (w64 (x37 + 1)), a62, p63, l60.length, I, H, ⟨by kernel_rfl, by kernel_rfl, by kernel_rfl, by kernel_rfl, by kernel_rfl, trivial⟩, hs.pk (.c d0 (.c d1 (.c d1 (.c d1 (.c d1 .n)))))⟩
      ·refine st 2 [false] ?_
       refine k_out rfl ?_
       obtain rfl := Option.some.inj H
       exact xE ⟨x32, a33, p34, x32.length, I, rfl, ⟨by kernel_rfl, by kernel_rfl, by kernel_rfl, trivial⟩, hs.pk (.c d0 (.c d2 (.c d2 .n)))⟩
    ·rintro ρ h ⟨x39, a40, p41, n42, I, rfl, hf, hs⟩
     have H := HR44
     try dsimp only at H
     refine k_fits _ hf ?_ rfl
     obtain rfl := hs.nO d0
     refine st 2 [] ?_
     obtain ⟨j68, e76, H⟩ := letJ_some H
     refine k_join (fun ρ h => ∃ (x67 : Bool) (I : Gh), j68 x67 = some r ∧ Fits [(4, .pointer (some ⟨b26, 0, none⟩)), (5, .pointer (some ⟨b28, 0, none⟩)), (6, .slice a40 x39.length p41), (48, .bool x67)] ρ ∧ St E [rO (tInt .u8) .i a40 p41 x39.length x39, rB b26 [.int .u8 0, .int .i64 0, .slice none 0 0] 46, rB b28 [.int .u8 x1, .int .i64 x0.Cursor, .slice none 0 0] 46] I h) ?_ ?_
     ·refine st 3 [] (k_ite H (fun c66 H => ?_) (fun c66 H => ?_))
      ·refine st 1 [] ?_
       exact k_end ⟨true, I, H, ⟨by kernel_rfl, by kernel_rfl, by kernel_rfl, by kernel_rfl, trivial⟩, hs.pk (.c d0 (.c d0 (.c d0 .n)))⟩
      ·refine st 1 [] ?_
       exact k_end ⟨false, I, H, ⟨by kernel_rfl, by kernel_rfl, by kernel_rfl, by kernel_rfl, trivial⟩, hs.pk (.c d0 (.c d0 (.c d0 .n)))⟩
     ·clear H
      rintro ρ h ⟨x67, I, H, hf, hs⟩
      refine k_fits _ hf ?_ rfl
      subst e76
      try dsimp only at H
      cases x67
      ·rw [cond_false] at H
       refine st 4 [false] (k_op (lN (hs.bl d2) 0 3 ?_))
       refine k_op (sN (hs.f d1) 0 [.int .u8 x1, .int .i64 x0.Cursor, .slice none 0 0] [.int .u8 x1, .int .i64 x0.Cursor, .slice none 0 0] (ones_of rfl) ?_)
       intro h hs
       refine st 1 [] ?_
       refine k_retQ ?_
       obtain rfl := Option.some.inj H
       exact ⟨[.agg #[.int .u8 x1, .int .i64 x0.Cursor, .slice none 0 0]], (.cons (.agg (by kernel_rfl) (by kernel_rfl) (by kernel_rfl) ((hs.bl d0).seg_ 0 3 (Nat.le_of_ble_eq_true rfl))) .nil), I, _, ⟨none, 0, 0, rfl, rfl⟩, hs.pk (.f imON .n)⟩
      ·rw [cond_true] at H
       refine st 3 [true] (k_op (lB (hs.bl d2) 2 rfl ?_))
       obtain ⟨I, hs⟩ := hs.fO
       refine st 2 [] (k_op (nS (e := 67) hs .i t_api_Entry ([(⟨(-1), x39⟩ : api_Entry)] : List api_Entry) [.int .i64 (-1), .slice a40 x39.length p41] 2 (.agg #[.int .i64 0, .slice none 0 0]) (Reps.cons (T := t_api_Entry) (c := [.int .i64 (-1), .slice a40 x39.length p41]) (x := (⟨(-1), x39⟩ : api_Entry)) ⟨_, _, _, rfl, (hs.g d0)⟩ (.nil : Reps t_api_Entry (Cl.G .i E.B I) h [] [])) ?_))
       intro b69 h hs
       obtain ⟨l71, m72, H⟩ := bind_some H
       refine k_op (aN (T := t_api_Entry) (e := 67) (bytes := 32) hs .i (hs.sO d0) m72 ?_)
       intro a73 p74 h hs
       refine st 1 [] (k_op (sB (v := .slice a73 l71.length p74) (hs.f d4) cw2 ?_))
       intro h hs
       refine st 3 [] (k_op (lN (hs.bl d0) 0 3 ?_))
       refine k_op (sN (hs.f d4) 0 [.int .u8 x1, .int .i64 x0.Cursor, .slice a73 l71.length p74] [.int .u8 x1, .int .i64 x0.Cursor, .slice a73 l71.length p74] (ones_of rfl) ?_)
       intro h hs
       refine st 1 [] ?_
       refine k_retQ ?_
       obtain rfl := Option.some.inj H
       exact ⟨[.agg #[.int .u8 x1, .int .i64 x0.Cursor, .slice a73 l71.length p74]], (.cons (.agg (by kernel_rfl) (by kernel_rfl) (by kernel_rfl) ((hs.bl d0).seg_ 0 3 (Nat.le_of_ble_eq_true rfl))) .nil), I, _, ⟨a73, p74, l71.length, rfl, rfl⟩, hs.pk (.c d2 .n)⟩
 ·rw [cond_true] at H
  refine st 6 [true] (k_op (sN hs 0 [.int .u8 x1, .int .i64 0, .slice none 0 0] [.int .u8 x1, .int .i64 0, .slice none 0 0] (ones_of rfl) ?_))
  intro h hs
  refine st 1 [] ?_
  refine k_retQ ?_
  obtain rfl := Option.some.inj H
  exact ⟨[.agg #[.int .u8 x1, .int .i64 0, .slice none 0 0]], (.cons (.agg (by kernel_rfl) (by kernel_rfl) (by kernel_rfl) ((hs.bl d0).seg_ 0 3 (Nat.le_of_ble_eq_true rfl))) .nil), I, _, ⟨none, 0, 0, rfl, rfl⟩, hs.pk (.f imON .n)⟩

/-! shutter/shutterlaw18.ReadReplies -/
def shutterlaw18_ReadReplies.m (K : Nat) (x0 : api_Screen) (x1 : Int) (x2 : Int) : Option Bool :=
  ((shutterlaw18_awake.m K).bind fun t26 => bif t26 then ((shutterref10_Few.m K x0).bind fun t27 => bif t27 then ((read_Reply.m K x0 x1 x2).bind fun t28 => (letJ (α := Bool → Option Bool) (fun (x36 : Bool) => (bif x36 then ((shutterref18_Image.m K x0).bind fun t38 => ((shutterref08_Write.m K (⟨241, (⟨false, false, false⟩ : api_Wcc), t38⟩ : api_Out) (x0.Cells.length : Int)).bind fun t43 => (if t43.2.1 = 0 then (if t28.2 = GoErr.nil then ((shutterref01_Same.m K t28.1 t43.1).bind fun t52 => (some t52)) else (some false)) else (some false)))) else (if x1 = 246 then ((shutterref05_Aid.m x2).bind fun t54 => bif t54 then (if t28.2 = GoErr.nil then ((shutterref18_Modified.m K x0 x2).bind fun t58 => ((shutterref09_Write.m K t58 (x0.Cells.length : Int)).bind fun t63 => ((shutterref01_Same.m K t28.1 t63).bind fun t68 => (some t68)))) else (some false)) else ((api_Code.m t28.2).bind fun t69 => (if t69 = 3 then (some ((t28.1.length : Int) == 0)) else (some false)))) else ((api_Code.m t28.2).bind fun t71 => (if t71 = 5 then (some ((t28.1.length : Int) == 0)) else (some false)))))) fun (j37 : Bool → Option Bool) => (if x1 = 242 then (j37 true) else (j37 false)))) else ((shutterlaw18_awake.m K).bind fun t74 => (some t74))) else ((shutterlaw18_awake.m K).bind fun t75 => (some t75)))

theorem shutterlaw18_ReadReplies.calls {B I : Gh} {h : Heap} {K : Nat} {x0 : api_Screen} {x1 : Int} {x2 : Int} {a21 : Option Addr} {p22 : Nat} {n23 : Nat} {r : Bool} (H : shutterlaw18_ReadReplies.m K x0 x1 x2 = some r)  :
    Fc Tryz.prog 3 #[.agg #[.int .i64 x0.Rows, .int .i64 x0.Cols, .slice a21 n23 p22, .int .i64 x0.Cursor, .bool x0.Locked, .bool x0.Insert], .int .i64 x1, .int .u8 x2] [rR t_api_Cell .b a21 p22 n23 x0.Cells, rG] B I h (fun v L => v = .bool r ∧ L = []) := by
 refine fc_of fun E hs => ?_
 unfold shutterlaw18_ReadReplies.m at H
 obtain rfl := hs.nR d0
 refine fn_of (args := [.agg #[.int .i64 x0.Rows, .int .i64 x0.Cols, .slice a21 x0.Cells.length p22, .int .i64 x0.Cursor, .bool x0.Locked, .bool x0.Insert], .int .i64 x1, .int .u8 x2]) (rs := [.tmp 6]) (N := 85) Tryz.func3 rfl rfl rfl rfl ?_
 refine st 2 [] (k_op (nB hs [.int .i64 x0.Rows, .int .i64 x0.Cols, .slice a21 x0.Cells.length p22, .int .i64 x0.Cursor, .bool x0.Locked, .bool x0.Insert] ?_))
 intro b25 h hs
 obtain ⟨hk, bk⟩ := hs.call tk0 (.c (gK d2) .n)
 refine st 5 [] (k_call H (fun _ m => shutterlaw18_awake.calls m hk) ?_)
 rintro t26 _ h H ⟨I, _, ⟨rfl, rfl⟩, hk⟩
 replace hs := bk hk ct0 rfl
 cases t26
 ·rw [cond_false] at H
  obtain ⟨hk, bk⟩ := hs.call tk0 (.c (gK d2) .n)
  refine st 10 [true] (k_call H (fun _ m => shutterlaw18_awake.calls m hk) ?_)
  rintro t75 _ h H ⟨I, _, ⟨rfl, rfl⟩, hk⟩
  replace hs := bk hk ct0 rfl
  refine st 2 [] ?_
  refine k_retQ ?_
  obtain rfl := Option.some.inj H
  exact ⟨_, by kernel_rfl, I, _, ⟨rfl, rfl⟩, hs.pk .n⟩
 ·rw [cond_true] at H
  refine st 2 [] (k_op (lN (hs.bl d0) 0 6 ?_))
  obtain ⟨hk, bk⟩ := hs.call tk0 (.c (qB d1) .n)
  refine k_call H (fun _ m => shutterref10_Few.calls m hk) ?_
  rintro t27 _ h H ⟨I, _, ⟨rfl, rfl⟩, hk⟩
  replace hs := bk hk ct0 rfl
  cases t27
  ·rw [cond_false] at H
   obtain ⟨hk, bk⟩ := hs.call tk0 (.c (gK d2) .n)
   refine st 6 [true] (k_call H (fun _ m => shutterlaw18_awake.calls m hk) ?_)
   rintro t74 _ h H ⟨I, _, ⟨rfl, rfl⟩, hk⟩
   replace hs := bk hk ct0 rfl
   refine st 2 [] ?_
   refine k_retQ ?_
   obtain rfl := Option.some.inj H
   exact ⟨_, by kernel_rfl, I, _, ⟨rfl, rfl⟩, hs.pk .n⟩
  ·rw [cond_true] at H
   refine st 7 [false] (k_op (lN (hs.bl d0) 0 6 ?_))
   obtain ⟨hk, bk⟩ := hs.call tk0 (.c (qB d1) .n)
   refine st 2 [] (k_call H (fun _ m => read_Reply.calls m hk) ?_)
   rintro t28 _ h H ⟨I, _, ⟨a29, p30, n31, v33, rfl, rfl⟩, hk⟩
   replace hs := bk hk ct2 rfl
   obtain rfl := hs.nO d0
   refine st 8 [] ?_
   obtain ⟨j37, e73, H⟩ := letJ_some H
   refine k_join (fun ρ h => ∃ (x36 : Bool) (I : Gh), j37 x36 = some r ∧ Fits [(1, .int .i64 x1), (2, .int .u8 x2), (3, .pointer (some ⟨b25, 0, none⟩)), (7, .slice a29 t28.1.length p30), (8, v33), (28, .bool x36)] ρ ∧ St E [rO (tInt .u8) .i a29 p30 t28.1.length t28.1, rE .i v33 t28.2, rR t_api_Cell .b a21 p22 x0.Cells.length x0.Cells, rB b25 [.int .i64 x0.Rows, .int .i64 x0.Cols, .slice a21 x0.Cells.length p22, .int .i64 x0.Cursor, .bool x0.Locked, .bool x0.Insert] 24, rG] I h) ?_ ?_
   ·refine st 2 [] (k_ite H (fun c35 H => ?_) (fun c35 H => ?_))
    ·refine st 1 [] ?_
     exact k_end ⟨true, I, H, ⟨by kernel_rfl, by kernel_rfl, by kernel_rfl, by kernel_rfl, by kernel_rfl, by kernel_rfl, trivial⟩, hs.pk (.c d0 (.c d0 (.c d1 (.c d0 (.c d0 .n)))))⟩
    ·refine st 1 [] ?_
     exact k_end ⟨false, I, H, ⟨by kernel_rfl, by kernel_rfl, by kernel_rfl, by kernel_rfl, by kernel_rfl, by kernel_rfl, trivial⟩, hs.pk (.c d0 (.c d0 (.c d1 (.c d0 (.c d0 .n)))))⟩
   ·clear H
    rintro ρ h ⟨x36, I, H, hf, hs⟩
    refine k_fits _ hf ?_ rfl
    subst e73
    try dsimp only at H
    cases x36
    ·rw [cond_false] at H
     refine st 6 [false] (k_iteN H (fun c53 H => ?_) (fun c53 H => ?_))
     ·refine st 7 [false] (k_call H (fun _ m => shutterref05_Aid.calls m) ?_)
      rintro t54 _ _ H ⟨rfl, rfl⟩
      cases t54
      ·rw [cond_false] at H
       obtain ⟨hk, bk⟩ := hs.call tk0 (.c (xI d1) (.c (gK d4) .n))
       refine st 6 [true] (k_call H (fun _ m => api_Code.calls m hk) ?_)
       rintro t69 _ h H ⟨I, _, ⟨rfl, rfl⟩, hk⟩
       replace hs := bk hk ct0 rfl
       refine k_ite H (fun c70 H => ?_) (fun c70 H => ?_)
       ·refine st 7 [] ?_
        refine k_retQ ?_
        obtain rfl := Option.some.inj H
        exact ⟨_, by kernel_rfl, I, _, ⟨rfl, rfl⟩, hs.pk .n⟩
       ·refine st 7 [] ?_
        refine k_retQ ?_
        obtain rfl := Option.some.inj H
        exact ⟨_, by kernel_rfl, I, _, ⟨rfl, rfl⟩, hs.pk .n⟩
      ·rw [cond_true] at H
       refine st 5 [false] ?_
       obtain ⟨hs0, bk0⟩ := hs.call tk0 (.c (xK d1) (.c (qL d3) (.c (qB d2) (.c (qO d0) .n))))
       have hs := hs0
       refine k_regD hs0 14 ?_
       refine aRun [0] 13 hs.keep ?_
       rcases (hs.er d0).cases with ⟨c55, rfl⟩ | ⟨c55, t56, u57, rfl⟩
       ·rw [if_pos c55] at H
        refine aRun [1, 2, 3] 10 hs.keep ?_
        refine aG 4 rfl hs.keep (lls hs0 d1 0 6 rfl) (nmL hs0 d1) ?_
        refine aRun [5, 7] 7 hs.keep ?_
        refine aL 8 rfl hs.keep (ll hs0 d1 (n := 2) rfl) (nmL hs0 d1) ?_
        refine aRun [9] 5 hs.keep ?_
        obtain ⟨hk, bk⟩ := hs.call tk0 (.c (qB d2) .n)
        refine aO1 6 rfl (o_call H (fun _ m => shutterref18_Modified.calls m hk) ?_)
        rintro t58 _ h H ⟨I, _, ⟨a59, p60, n61, rfl, rfl⟩, hk⟩
        replace hs := bk hk ct1 rfl
        obtain rfl := hs.nO d0
        refine ⟨hs.keep, ?_⟩
        obtain ⟨hk, bk⟩ := hs.call tk0 (.c (qO d0) .n)
        refine aO1 10 rfl (o_call H (fun _ m => shutterref09_Write.calls m hk) ?_)
        rintro t63 _ h H ⟨I, _, ⟨a64, p65, n66, rfl, rfl⟩, hk⟩
        replace hs := bk hk ct1 rfl
        obtain rfl := hs.nO d0
        refine ⟨hs.keep, ?_⟩
        refine aO1 11 rfl (o_call H (fun _ m => shutterref01_Same.calls m (hs.sR d5) ((hs.sO d0)).up1) ?_)
        rintro t68 _ _ H ⟨rfl, rfl⟩
        refine ⟨hs.keep, ?_⟩
        refine aRun [12, 13] 0 hs.keep ?_
        replace hs := hs.pk (.c d0 (.c d0 .n))
        replace hs := bk0 hs ct2 rfl
        refine aEnd ?_
        refine k_retQ ?_
        obtain rfl := Option.some.inj H
        exact ⟨_, by kernel_rfl, I, _, ⟨rfl, rfl⟩, hs.pk .n⟩
       ·rw [if_neg c55] at H
        refine aRun [1, 2, 3, 4, 5, 6, 7, 8, 9, 10, 11, 12, 13] 0 hs.keep ?_
        replace hs := hs.pk .n
        replace hs := bk0 hs ct0 rfl
        refine aEnd ?_
        refine k_retQ ?_
        obtain rfl := Option.some.inj H
        exact ⟨_, by kernel_rfl, I, _, ⟨rfl, rfl⟩, hs.pk .n⟩
     ·obtain ⟨hk, bk⟩ := hs.call tk0 (.c (xI d1) (.c (gK d4) .n))
      refine st 5 [true] (k_call H (fun _ m => api_Code.calls m hk) ?_)
      rintro t71 _ h H ⟨I, _, ⟨rfl, rfl⟩, hk⟩
      replace hs := bk hk ct0 rfl
      refine k_ite H (fun c72 H => ?_) (fun c72 H => ?_)
      ·refine st 7 [] ?_
       refine k_retQ ?_
       obtain rfl := Option.some.inj H
       exact ⟨_, by kernel_rfl, I, _, ⟨rfl, rfl⟩, hs.pk .n⟩
      ·refine st 7 [] ?_
       refine k_retQ ?_
       obtain rfl := Option.some.inj H
       exact ⟨_, by kernel_rfl, I, _, ⟨rfl, rfl⟩, hs.pk .n⟩
    ·rw [cond_true] at H
     refine st 2 [true] ?_
     obtain ⟨hs0, bk0⟩ := hs.call tk0 (.c (qL d3) (.c (qB d2) .n))
     have hs := hs0
     refine k_regD hs0 14 ?_
     refine aG 0 rfl hs.keep (lls hs0 d0 0 6 rfl) (nmL hs0 d0) ?_
     refine aRun [3] 12 hs.keep ?_
     refine aL 4 rfl hs.keep (ll hs0 d0 (n := 2) rfl) (nmL hs0 d0) ?_
     refine aRun [5] 10 hs.keep ?_
     obtain ⟨hk, bk⟩ := hs.call tk0 (.c (qB d1) .n)
     refine aO1 1 rfl (o_call H (fun _ m => shutterref18_Image.calls m hk) ?_)
     rintro t38 _ h H ⟨I, _, ⟨a39, p40, n41, rfl, rfl⟩, hk⟩
     replace hs := bk hk ct1 rfl
     obtain rfl := hs.nO d0
     refine ⟨hs.keep, ?_⟩
     refine aRun [2] 8 hs.keep ?_
     obtain ⟨hk, bk⟩ := hs.call tk0 (.c (qO d0) .n)
     refine aO1 6 rfl (o_call H (fun _ m => shutterref08_Write.calls m hk) ?_)
     rintro t43 _ h H ⟨I, _, ⟨a44, p45, n46, rfl, rfl⟩, hk⟩
     replace hs := bk hk ct1 rfl
     obtain rfl := hs.nO d0
     refine ⟨hs.keep, ?_⟩
     refine aRun [7, 8, 9, 10, 11, 12, 13] 0 hs.keep ?_
     replace hs := hs.pk (.c d0 (.c d0 .n))
     replace hs := bk0 hs ct2 rfl
     refine aEnd ?_
     refine st 3 [] (k_ite H (fun c48 H => ?_) (fun c48 H => ?_))
     ·rcases (hs.er d3).cases with ⟨c49, rfl⟩ | ⟨c49, t50, u51, rfl⟩
      ·rw [if_pos c49] at H
       refine st 7 [] (k_call H (fun _ m => shutterref01_Same.calls m (hs.sO d2) (hs.sO d0)) ?_)
       rintro t52 _ _ H ⟨rfl, rfl⟩
       refine st 3 [] ?_
       refine k_retQ ?_
       obtain rfl := Option.some.inj H
       exact ⟨_, by kernel_rfl, I, _, ⟨rfl, rfl⟩, hs.pk .n⟩
      ·rw [if_neg c49] at H
       refine st 11 [] ?_
       refine k_retQ ?_
       obtain rfl := Option.some.inj H
       exact ⟨_, by kernel_rfl, I, _, ⟨rfl, rfl⟩, hs.pk .n⟩
     ·refine st 11 [] ?_
      refine k_retQ ?_
      obtain rfl := Option.some.inj H
      exact ⟨_, by kernel_rfl, I, _, ⟨rfl, rfl⟩, hs.pk .n⟩

/-! shutter/bytes.New -/
def bytes_New.m (x0 : (List Int)) : Option bytes_Cursor :=
  ((slices_Clone_bytes.m x0).bind fun t25 => (some (⟨t25, 0, GoErr.nil⟩ : bytes_Cursor)))

theorem bytes_New.calls {B I : Gh} {h : Heap} {x0 : (List Int)} {a21 : Option Addr} {p22 : Nat} {n23 : Nat} {r : bytes_Cursor} (H : bytes_New.m x0 = some r)  :
    Fc Tryz.prog 49 #[.slice a21 n23 p22] [rR (tInt .u8) .b a21 p22 n23 x0] B I h (fun v L => ∃ (b31 : Nat) (a32 : Option Addr) (p33 : Nat) (n34 : Nat) (v36 : Value), v = .pointer (some ⟨b31, 0, none⟩) ∧ L = [rB b31 [.slice a32 n34 p33, .int .i64 r.at', v36] 139, rR (tInt .u8) .i a32 p33 n34 r.b', rE .i v36 r.err']) := by
 refine fc_of fun E hs => ?_
 unfold bytes_New.m at H
 obtain rfl := hs.nR d0
 refine fn_of (args := [.slice a21 x0.length p22]) (rs := [.tmp 2]) (N := 7) Tryz.func49 rfl rfl rfl rfl ?_
 obtain ⟨hk, bk⟩ := hs.call tk0 (.c (qB d0) .n)
 refine st 7 [] (k_call H (fun _ m => slices_Clone_bytes.calls m hk) ?_)
 rintro t25 _ h H ⟨I, _, ⟨a26, p27, n28, rfl, rfl⟩, hk⟩
 replace hs := bk hk ct1 rfl
 obtain rfl := hs.nO d0
 refine st 1 [] (k_op (nB hs [.slice a26 t25.length p27, .int .i64 0, .nilIface] ?_))
 intro b30 h hs
 refine st 2 [] ?_
 refine k_retQ ?_
 obtain rfl := Option.some.inj H
 obtain ⟨I, hs⟩ := (hs.f d1).fO
 exact ⟨_, by kernel_rfl, I, _, ⟨b30, a26, p27, t25.length, (.nilIface), rfl, rfl⟩, hs.pk (.c d1 (.c d0 (.f imEN .n)))⟩

/-! (*shutter/bytes.Cursor).Fail -/
def bytes_Cursor_Fail.m (x0 : bytes_Cursor) (x1 : GoErr) : Option bytes_Cursor :=
  (letJ (α := Bool → Option bytes_Cursor) (fun (x33 : Bool) => (bif x33 then (some (⟨x0.b', x0.at', (GoErr.spot x0.at' x1)⟩ : bytes_Cursor)) else (some x0))) fun (j35 : Bool → Option bytes_Cursor) => (if x0.err' = GoErr.nil then (if x1 = GoErr.nil then (j35 false) else (j35 true)) else (j35 false)))

theorem bytes_Cursor_Fail.calls {B I : Gh} {h : Heap} {x0 : bytes_Cursor} {x1 : GoErr} {b0 : Nat} {v21 : Value} {v22 : Value} {v24 : Value} {r : bytes_Cursor} (H : bytes_Cursor_Fail.m x0 x1 = some r)  :
    Fc Tryz.prog 91 #[.pointer (some ⟨b0, 0, none⟩), v24] [rB b0 [v21, .int .i64 x0.at', v22] 139, rE .i v22 x0.err', rE .i v24 x1] B I h (fun v L => ∃ (v43 : Value), v = .tuple #[] ∧ L = [rB b0 [v21, .int .i64 r.at', v43] 139, rE .i v43 r.err']) := by
 refine fc_of fun E hs => ?_
 unfold bytes_Cursor_Fail.m at H
 refine fn_of (args := [.pointer (some ⟨b0, 0, none⟩), v24]) (rs := []) (N := 24) Tryz.func91 rfl rfl rfl rfl ?_
 refine st 1 [] ?_
 obtain ⟨j35, e42, H⟩ := letJ_some H
 refine k_join (fun ρ h => ∃ (x33 : Bool) (v32 : Value) (v34 : Value) (I : Gh), j35 x33 = some r ∧ Fits [(0, .pointer (some ⟨b0, 0, none⟩)), (1, v32), (12, .bool x33)] ρ ∧ St E [rE .i v32 x1, rE .i v34 x0.err', rB b0 [v21, .int .i64 x0.at', v34] 139] I h) ?_ ?_
 ·refine st 4 [] (k_op (lB (hs.bl d0) 2 rfl ?_))
  rcases (hs.er d1).cases with ⟨c26, rfl⟩ | ⟨c26, t27, u28, rfl⟩
  ·rw [if_pos c26] at H
   rcases (hs.er d2).cases with ⟨c29, rfl⟩ | ⟨c29, t30, u31, rfl⟩
   ·rw [if_pos c29] at H
    refine st 6 [] ?_
    exact k_end ⟨false, .nilIface, .nilIface, I, H, ⟨by kernel_rfl, by kernel_rfl, by kernel_rfl, trivial⟩, hs.pk (.c d2 (.c d1 (.c d0 .n)))⟩
   ·rw [if_neg c29] at H
    refine st 6 [] ?_
    exact k_end ⟨true, (.iface t30 u31), .nilIface, I, H, ⟨by kernel_rfl, by kernel_rfl, by kernel_rfl, trivial⟩, hs.pk (.c d2 (.c d1 (.c d0 .n)))⟩
  ·rw [if_neg c26] at H
   refine st 6 [] ?_
   exact k_end ⟨false, v24, (.iface t27 u28), I, H, ⟨by kernel_rfl, by kernel_rfl, by kernel_rfl, trivial⟩, hs.pk (.c d2 (.c d1 (.c d0 .n)))⟩
 ·clear H
  rintro ρ h ⟨x33, v32, v34, I, H, hf, hs⟩
  refine k_fits _ hf ?_ rfl
  subst e42
  try dsimp only at H
  cases x33
  ·rw [cond_false] at H
   refine st 2 [false] ?_
   refine k_fin ?_
   obtain rfl := Option.some.inj H
   exact ⟨_, by kernel_rfl, I, _, ⟨(v34), rfl, rfl⟩, hs.pk (.c d2 (.c d1 .n))⟩
  ·rw [cond_true] at H
   refine st 6 [true] (k_op (lB (hs.bl d2) 1 rfl ?_))
   rcases (hs.er d0).cases with ⟨c36, rfl⟩ | ⟨c36, t37, u38, rfl⟩
   ·refine st 2 [] (k_op (nB hs [.int .i64 x0.at', .nilIface] ?_))
    intro b39 h hs
    have q40 := (hs.er d1)
    obtain ⟨I, hs⟩ := hs.fS q40
    refine st 3 [] (k_op (sB (v := (.iface 105 (.pointer (some ⟨b39, 0, none⟩)))) (hs.f d3) cw2 ?_))
    intro h hs
    refine st 1 [] ?_
    refine k_fin ?_
    obtain rfl := Option.some.inj H
    exact ⟨_, by kernel_rfl, I, _, ⟨((.iface 105 (.pointer (some ⟨b39, 0, none⟩)))), rfl, rfl⟩, hs.pk (.c d0 (.c d0 .n))⟩
   ·refine st 2 [] (k_op (nB hs [.int .i64 x0.at', (.iface t37 u38)] ?_))
    intro b39 h hs
    have q40 := (hs.er d1)
    obtain ⟨I, hs⟩ := hs.fS q40
    refine st 3 [] (k_op (sB (v := (.iface 105 (.pointer (some ⟨b39, 0, none⟩)))) (hs.f d3) cw2 ?_))
    intro h hs
    refine st 1 [] ?_
    refine k_fin ?_
    obtain rfl := Option.some.inj H
    exact ⟨_, by kernel_rfl, I, _, ⟨((.iface 105 (.pointer (some ⟨b39, 0, none⟩)))), rfl, rfl⟩, hs.pk (.c d0 (.c d0 .n))⟩

/-! (*shutter/bytes.Cursor).Left -/
def bytes_Cursor_Left.m (x0 : bytes_Cursor) : Option (Int × bytes_Cursor) :=
  (some ((w64 ((x0.b'.length : Int) - x0.at')), x0))

theorem bytes_Cursor_Left.calls {B I : Gh} {h : Heap} {x0 : bytes_Cursor} {b0 : Nat} {a21 : Option Addr} {p22 : Nat} {n23 : Nat} {v25 : Value} {r : (Int × bytes_Cursor)} (H : bytes_Cursor_Left.m x0 = some r)  :
    Fc Tryz.prog 52 #[.pointer (some ⟨b0, 0, none⟩)] [rB b0 [.slice a21 n23 p22, .int .i64 x0.at', v25] 139, rR (tInt .u8) .i a21 p22 n23 x0.b'] B I h (fun v L => ∃ (a26 : Option Addr) (p27 : Nat) (n28 : Nat), v = .int .i64 r.1 ∧ L = [rB b0 [.slice a26 n28 p27, .int .i64 r.2.at', v25] 139, rR (tInt .u8) .i a26 p27 n28 r.2.b']) := by
 refine fc_of fun E hs => ?_
 unfold bytes_Cursor_Left.m at H
 obtain rfl := hs.nR d1
 refine fn_of (args := [.pointer (some ⟨b0, 0, none⟩)]) (rs := [.tmp 2]) (N := 13) Tryz.func52 rfl rfl rfl rfl ?_
 refine st 5 [] ?_
 obtain ⟨hs0, bk0⟩ := hs.call tk0 (.c (qL d0) .n)
 have hs := hs0
 refine k_regD hs0 11 ?_
 refine aRun [0, 1, 2] 8 hs.keep ?_
 refine aL 3 rfl hs.keep (ll hs0 d0 (n := 0) rfl) (nmL hs0 d0) ?_
 refine aRun [4, 5, 6, 7] 3 hs.keep ?_
 refine aL 8 rfl hs.keep (ll hs0 d0 (n := 1) rfl) (nmL hs0 d0) ?_
 refine aRun [9, 10] 0 hs.keep ?_
 replace hs := hs.pk .n
 replace hs := bk0 hs ct0 rfl
 refine aEnd ?_
 refine k_retQ ?_
 obtain rfl := Option.some.inj H
 exact ⟨_, by kernel_rfl, I, _, ⟨a21, p22, x0.b'.length, rfl, rfl⟩, hs.pk (.c d0 (.c d0 .n))⟩

/-! (*shutter/bytes.Cursor).Take -/
def bytes_Cursor_Take.m (x0 : bytes_Cursor) (x1 : Int) : Option ((List Int) × bytes_Cursor) :=
  (letJ (α := (List Int) → Int → GoErr → Option ((List Int) × bytes_Cursor)) (fun (x40 : List Int) (x45 : Int) (x46 : GoErr) => (if x46 = GoErr.nil then (if 0 ≤ (w64 ((w64 (x45 + x1)) - x1)) then (if (w64 ((w64 (x45 + x1)) - x1)) ≤ (w64 (x45 + x1)) then (if (w64 (x45 + x1)) ≤ (x40.length : Int) then ((slices_Clone_bytes.m (sub x40 (w64 ((w64 (x45 + x1)) - x1)) (w64 (x45 + x1)))).bind fun t56 => (some (t56, (⟨x40, (w64 (x45 + x1)), x46⟩ : bytes_Cursor)))) else none) else none) else none) else (some ([], (⟨x40, x45, x46⟩ : bytes_Cursor))))) fun (j49 : (List Int) → Int → GoErr → Option ((List Int) × bytes_Cursor)) => (if x1 < 0 then ((bytes_Cursor_Fail.m x0 (GoErr.no 2)).bind fun t28 => (j49 x0.b' t28.at' t28.err')) else ((bytes_Cursor_Left.m x0).bind fun t31 => (if x1 > t31.1 then ((bytes_Cursor_Fail.m (⟨t31.2.b', t31.2.at', x0.err'⟩ : bytes_Cursor) (GoErr.no 2)).bind fun t37 => (j49 t31.2.b' t37.at' t37.err')) else (j49 t31.2.b' t31.2.at' x0.err')))))

theorem bytes_Cursor_Take.calls {B I : Gh} {h : Heap} {x0 : bytes_Cursor} {x1 : Int} {b0 : Nat} {a21 : Option Addr} {p22 : Nat} {n23 : Nat} {v25 : Value} {r : ((List Int) × bytes_Cursor)} (H : bytes_Cursor_Take.m x0 x1 = some r)  :
    Fc Tryz.prog 89 #[.pointer (some ⟨b0, 0, none⟩), .int .i64 x1] [rB b0 [.slice a21 n23 p22, .int .i64 x0.at', v25] 139, rR (tInt .u8) .i a21 p22 n23 x0.b', rE .i v25 x0.err'] B I h (fun v L => ∃ (a62 : Option Addr) (p63 : Nat) (n64 : Nat) (a66 : Option Addr) (p67 : Nat) (n68 : Nat) (v70 : Value), v = .slice a62 n64 p63 ∧ L = [rO (tInt .u8) .i a62 p63 n64 r.1, rB b0 [.slice a66 n68 p67, .int .i64 r.2.at', v70] 139, rR (tInt .u8) .i a66 p67 n68 r.2.b', rE .i v70 r.2.err']) := by
 refine fc_of fun E hs => ?_
 unfold bytes_Cursor_Take.m at H
 obtain rfl := hs.nR d1
 refine fn_of (args := [.pointer (some ⟨b0, 0, none⟩), .int .i64 x1]) (rs := [.tmp 4]) (N := 45) Tryz.func89 rfl rfl rfl rfl ?_
 refine st 5 [] ?_
 obtain ⟨j49, e61, H⟩ := letJ_some H
 refine k_join (fun ρ h => ∃ (x40 : List Int) (x45 : Int) (x46 : GoErr) (a41 : Option Addr) (p42 : Nat) (n43 : Nat) (v47 : Value) (I : Gh), j49 x40 x45 x46 = some r ∧ Fits [(0, .pointer (some ⟨b0, 0, none⟩)), (1, .int .i64 x1)] ρ ∧ St E [rR (tInt .u8) .i a41 p42 n43 x40, rE .i v47 x46, rB b0 [.slice a41 n43 p42, .int .i64 x45, v47] 139] I h) ?_ ?_
 ·refine st 3 [] (k_ite H (fun c27 H => ?_) (fun c27 H => ?_))
  ·obtain ⟨hk, bk⟩ := hs.call tk1 (.c (xK d1) (.c xC .n))
   refine st 11 [true] (k_call H (fun _ m => bytes_Cursor_Fail.calls m hk) ?_)
   rintro t28 _ h H ⟨I, _, ⟨v29, rfl, rfl⟩, hk⟩
   replace hs := bk hk ct2 rfl
   refine st 1 [] ?_
   exact k_end ⟨x0.b', t28.at', t28.err', a21, p22, x0.b'.length, v29, I, H, ⟨by kernel_rfl, by kernel_rfl, trivial⟩, hs.pk (.c d2 (.c d1 (.c d0 .n)))⟩
  ·obtain ⟨hk, bk⟩ := hs.call tk1 (.c (qK d0) .n)
   refine st 3 [] (k_call H (fun _ m => bytes_Cursor_Left.calls m hk) ?_)
   rintro t31 _ h H ⟨I, _, ⟨a32, p33, n34, rfl, rfl⟩, hk⟩
   replace hs := bk hk ct2 rfl
   obtain rfl := hs.nR d1
   refine k_ite H (fun c36 H => ?_) (fun c36 H => ?_)
   ·obtain ⟨hk, bk⟩ := hs.call tk1 (.c (xK d2) (.c xC .n))
    refine st 6 [true] (k_call H (fun _ m => bytes_Cursor_Fail.calls m hk) ?_)
    rintro t37 _ h H ⟨I, _, ⟨v38, rfl, rfl⟩, hk⟩
    replace hs := bk hk ct2 rfl
    refine st 1 [] ?_
    exact k_end ⟨t31.2.b', t37.at', t37.err', a32, p33, t31.2.b'.length, v38, I, H, ⟨by kernel_rfl, by kernel_rfl, trivial⟩, hs.pk (.c d2 (.c d1 (.c d0 .n)))⟩
   ·refine st 4 [false] ?_
    exact k_end ⟨t31.2.b', t31.2.at', x0.err', a32, p33, t31.2.b'.length, v25, I, H, ⟨by kernel_rfl, by kernel_rfl, trivial⟩, hs.pk (.c d1 (.c d2 (.c d0 .n)))⟩
 ·clear H
  rintro ρ h ⟨x40, x45, x46, a41, p42, n43, v47, I, H, hf, hs⟩
  refine k_fits _ hf ?_ rfl
  subst e61
  try dsimp only at H
  obtain rfl := hs.nR d0
  refine st 6 [] (k_op (lB (hs.bl d2) 2 rfl ?_))
  rcases (hs.er d1).cases with ⟨c50, rfl⟩ | ⟨c50, t51, u52, rfl⟩
  ·rw [if_pos c50] at H
   refine st 9 [false] (k_op (lB (hs.bl d2) 1 rfl ?_))
   refine st 4 [] (k_op (sB (v := .int .i64 (w64 (x45 + x1))) (hs.f d2) cw1 ?_))
   intro h hs
   refine st 2 [] ?_
   obtain ⟨hs0, bk0⟩ := hs.call tk0 (.c (qL d0) (.c (qK d1) .n))
   have hs := hs0
   refine k_regD hs0 17 ?_
   refine aRun [0, 1, 2] 14 hs.keep ?_
   refine aL 3 rfl hs.keep (ll hs0 d0 (n := 0) rfl) (nmL hs0 d0) ?_
   refine aRun [4, 5, 6] 10 hs.keep ?_
   refine aL 7 rfl hs.keep (ll hs0 d0 (n := 1) rfl) (nmL hs0 d0) ?_
   refine aRun [8, 9, 10, 11, 12] 4 hs.keep ?_
   refine aL 13 rfl hs.keep (ll hs0 d0 (n := 1) rfl) (nmL hs0 d0) ?_
   obtain ⟨c53, H⟩ := guard_pos H
   obtain ⟨c54, H⟩ := guard_pos H
   obtain ⟨c55, H⟩ := guard_pos H
   refine aP 14 (.slice (slA a41 p42 (Int.toNat (w64 ((w64 (x45 + x1)) - x1))) 1) ((sub x40 (w64 ((w64 (x45 + x1)) - x1)) (w64 (x45 + x1))).length) (p42 - Int.toNat (w64 ((w64 (x45 + x1)) - x1)))) rfl (pS (e := 5) (k1 := .i64) (k2 := .i64) (hs.sR d1) c53 c54 c55) hs.keep ?_
   obtain ⟨hk, bk⟩ := hs.call tk0 (.c (qP (qI d1) (lo := (w64 ((w64 (x45 + x1)) - x1))) (hi := (w64 (x45 + x1))) c53 c54 c55) .n)
   refine aO1 15 rfl (o_call H (fun _ m => slices_Clone_bytes.calls m hk) ?_)
   rintro t56 _ h H ⟨I, _, ⟨a57, p58, n59, rfl, rfl⟩, hk⟩
   replace hs := bk hk ct1 rfl
   obtain rfl := hs.nO d0
   refine ⟨hs.keep, ?_⟩
   refine aRun [16] 0 hs.keep ?_
   replace hs := hs.pk (.c d0 .n)
   replace hs := bk0 hs ct1 rfl
   refine aEnd ?_
   refine k_retQ ?_
   obtain rfl := Option.some.inj H
   exact ⟨_, by kernel_rfl, I, _, ⟨a57, p58, t56.length, a41, p42, x40.length, (.nilIface), rfl, rfl⟩, hs.pk (.c d0 (.c d0 (.c d0 (.c d0 .n))))⟩
  ·rw [if_neg c50] at H
   refine st 7 [true] ?_
   refine k_retQ ?_
   obtain rfl := Option.some.inj H
   exact ⟨_, by kernel_rfl, I, _, ⟨none, 0, 0, a41, p42, x40.length, ((.iface t51 u52)), rfl, rfl⟩, hs.pk (.f imON (.c d2 (.c d0 (.c d0 .n))))⟩

/-! (*shutter/bytes.Cursor).Byte -/
def bytes_Cursor_Byte.m (x0 : bytes_Cursor) : Option (Int × bytes_Cursor) :=
  ((bytes_Cursor_Take.m x0 1).bind fun t27 => (if (t27.1.length : Int) = 0 then (some (0, t27.2)) else (if 0 < (t27.1.length : Int) then (some ((at_ t27.1 0), t27.2)) else none)))

theorem bytes_Cursor_Byte.calls {B I : Gh} {h : Heap} {x0 : bytes_Cursor} {b0 : Nat} {a21 : Option Addr} {p22 : Nat} {n23 : Nat} {v25 : Value} {r : (Int × bytes_Cursor)} (H : bytes_Cursor_Byte.m x0 = some r)  :
    Fc Tryz.prog 50 #[.pointer (some ⟨b0, 0, none⟩)] [rB b0 [.slice a21 n23 p22, .int .i64 x0.at', v25] 139, rR (tInt .u8) .i a21 p22 n23 x0.b', rE .i v25 x0.err'] B I h (fun v L => ∃ (a40 : Option Addr) (p41 : Nat) (n42 : Nat) (v44 : Value), v = .int .u8 r.1 ∧ L = [rB b0 [.slice a40 n42 p41, .int .i64 r.2.at', v44] 139, rR (tInt .u8) .i a40 p41 n42 r.2.b', rE .i v44 r.2.err']) := by
 refine fc_of fun E hs => ?_
 unfold bytes_Cursor_Byte.m at H
 obtain rfl := hs.nR d1
 refine fn_of (args := [.pointer (some ⟨b0, 0, none⟩)]) (rs := [.tmp 2]) (N := 12) Tryz.func50 rfl rfl rfl rfl ?_
 obtain ⟨hk, bk⟩ := hs.call tk1 (.c (qK d0) (.c (xK d1) .n))
 refine st 7 [] (k_call H (fun _ m => bytes_Cursor_Take.calls m hk) ?_)
 rintro t27 _ h H ⟨I, _, ⟨a28, p29, n30, a32, p33, n34, v36, rfl, rfl⟩, hk⟩
 replace hs := bk hk ct4 rfl
 obtain rfl := hs.nO d0
 obtain rfl := hs.nR d2
 refine st 7 [] (k_ite H (fun c38 H => ?_) (fun c38 H => ?_))
 ·refine st 6 [true] ?_
  refine k_retQ ?_
  obtain rfl := Option.some.inj H
  exact ⟨_, by kernel_rfl, I, _, ⟨a32, p33, t27.2.b'.length, (v36), rfl, rfl⟩, hs.pk (.c d1 (.c d1 (.c d1 .n)))⟩
 ·obtain ⟨c39, H⟩ := guard_pos H
  refine st 6 [false] (k_val (elemPtr a28 ((0 : Int).toNat * 1)) (pI (e := 5) (ik := .i64) (hs.sO d0) (by decide) c39) ?_)
  refine k_op (lC ((hs.sO d0).cell1 (by decide) c39) ?_)
  refine st 2 [] ?_
  refine k_retQ ?_
  obtain rfl := Option.some.inj H
  exact ⟨_, by kernel_rfl, I, _, ⟨a32, p33, t27.2.b'.length, (v36), rfl, rfl⟩, hs.pk (.c d1 (.c d1 (.c d1 .n)))⟩

/-! (*shutter/bytes.Cursor).Err -/
def bytes_Cursor_Err.m (x0 : bytes_Cursor) : Option (GoErr × bytes_Cursor) :=
  (some (x0.err', x0))

theorem bytes_Cursor_Err.calls {B I : Gh} {h : Heap} {x0 : bytes_Cursor} {b0 : Nat} {v21 : Value} {v22 : Value} {r : (GoErr × bytes_Cursor)} (H : bytes_Cursor_Err.m x0 = some r)  :
    Fc Tryz.prog 51 #[.pointer (some ⟨b0, 0, none⟩)] [rB b0 [v21, .int .i64 x0.at', v22] 139, rE .i v22 x0.err'] B I h (fun v L => ∃ (v25 : Value) (v27 : Value), v = v25 ∧ L = [rE .i v25 r.1, rB b0 [v21, .int .i64 r.2.at', v27] 139, rE .i v27 r.2.err']) := by
 refine fc_of fun E hs => ?_
 unfold bytes_Cursor_Err.m at H
 refine fn_of (args := [.pointer (some ⟨b0, 0, none⟩)]) (rs := [.tmp 2]) (N := 7) Tryz.func51 rfl rfl rfl rfl ?_
 refine st 9 [] (k_op (lB (hs.bl d0) 2 rfl ?_))
 refine st 2 [] ?_
 replace hs := hs.dup d1 (fun _ x => x)
 refine k_retQ ?_
 obtain rfl := Option.some.inj H
 exact ⟨_, by kernel_rfl, I, _, ⟨(v22), (v22), rfl, rfl⟩, hs.pk (.c d2 (.c d1 (.c d0 .n)))⟩

/-! shutter/six.Low -/
def six_Low.m (x0 : Int) : Option Int :=
  (some (w64 ((bAnd .u8 x0 63))))

theorem six_Low.calls {x0 : Int} {h : Heap} {r : Int} (H : six_Low.m x0 = some r)   :
    Ret Tryz.prog 127 #[.int .u8 x0] h (fun v h' => .int .i64 r = v ∧ h' = h) := by
 unfold six_Low.m at H
 refine fn_of (args := [.int .u8 x0]) (rs := [.tmp 2]) (N := 6) Tryz.func127 rfl rfl rfl rfl ?_
 refine st 11 [] ?_
 refine k_retQ ?_
 obtain rfl := Option.some.inj H
 exact ⟨_, by kernel_rfl, rfl, rfl⟩

/-! shutter/six.Get -/
def six_Get.m (x0 : Int) : Option (Int × GoErr) :=
  ((six_Low.m x0).bind fun t21 => ((six_at.m t21).bind fun t22 => (if t22 = x0 then (some (t21, GoErr.nil)) else (some (0, (GoErr.no 3))))))

theorem six_Get.calls {B I : Gh} {h : Heap} {x0 : Int} {r : (Int × GoErr)} (H : six_Get.m x0 = some r)  :
    Fc Tryz.prog 96 #[.int .u8 x0] [] B I h (fun v L => ∃ (v24 : Value), v = .tuple #[.int .i64 r.1, v24] ∧ L = [rE .i v24 r.2]) := by
 refine fc_of fun E hs => ?_
 unfold six_Get.m at H
 refine fn_of (args := [.int .u8 x0]) (rs := [.tmp 2, .tmp 3]) (N := 13) Tryz.func96 rfl rfl rfl rfl ?_
 refine st 9 [] (k_call H (fun _ m => six_Low.calls m) ?_)
 rintro t21 _ _ H ⟨rfl, rfl⟩
 refine st 5 [] (k_call H (fun _ m => six_at.calls m) ?_)
 rintro t22 _ _ H ⟨rfl, rfl⟩
 refine st 1 [] (k_ite H (fun c23 H => ?_) (fun c23 H => ?_))
 ·refine st 8 [true] ?_
  refine k_retQ ?_
  obtain rfl := Option.some.inj H
  exact ⟨_, by kernel_rfl, I, _, ⟨(.nilIface), rfl, rfl⟩, hs.pk (.f imEN .n)⟩
 ·refine st 9 [false] ?_
  refine k_retQ ?_
  obtain rfl := Option.some.inj H
  exact ⟨_, by kernel_rfl, I, _, ⟨(.iface 71 (.int .i64 3)), rfl, rfl⟩, hs.pk (.f imEC .n)⟩

/-! shutter/addr.spot -/
def addr_spot.m (x0 : Int) (x1 : GoErr) : Option GoErr :=
  (some (GoErr.spot x0 x1))

theorem addr_spot.calls {B I : Gh} {h : Heap} {x0 : Int} {x1 : GoErr} {v21 : Value} {r : GoErr} (H : addr_spot.m x0 x1 = some r)  :
    Fc Tryz.prog 125 #[.int .i64 x0, v21] [rE .i v21 x1] B I h (fun v L => ∃ (v29 : Value), v = v29 ∧ L = [rE .i v29 r]) := by
 refine fc_of fun E hs => ?_
 unfold addr_spot.m at H
 refine fn_of (args := [.int .i64 x0, v21]) (rs := [.tmp 4]) (N := 10) Tryz.func125 rfl rfl rfl rfl ?_
 rcases (hs.er d0).cases with ⟨c23, rfl⟩ | ⟨c23, t24, u25, rfl⟩
 ·refine st 9 [] (k_op (nB hs [.int .i64 x0, .nilIface] ?_))
  intro b26 h hs
  have q27 := (hs.er d1)
  obtain ⟨I, hs⟩ := hs.fS q27
  refine st 3 [] ?_
  refine k_retQ ?_
  obtain rfl := Option.some.inj H
  exact ⟨_, by kernel_rfl, I, _, ⟨((.iface 105 (.pointer (some ⟨b26, 0, none⟩)))), rfl, rfl⟩, hs.pk (.c d0 .n)⟩
 ·refine st 9 [] (k_op (nB hs [.int .i64 x0, (.iface t24 u25)] ?_))
  intro b26 h hs
  have q27 := (hs.er d1)
  obtain ⟨I, hs⟩ := hs.fS q27
  refine st 3 [] ?_
  refine k_retQ ?_
  obtain rfl := Option.some.inj H
  exact ⟨_, by kernel_rfl, I, _, ⟨((.iface 105 (.pointer (some ⟨b26, 0, none⟩)))), rfl, rfl⟩, hs.pk (.c d0 .n)⟩

/-! shutter/addr.short -/
def addr_short.l1.m (K : Nat) (x0 : (List Int)) : Nat → Int → Int → Option ((Int × GoErr) ⊕ (Int))
  | 0, _, _ => none
  | k + 1, x25, x26 => (letJ (α := Bool → Option ((Int × GoErr) ⊕ (Int))) (fun (x32 : Bool) => (bif x32 then (if 0 ≤ x26 then (if x26 < (x0.length : Int) then ((six_Get.m (at_ x0 x26)).bind fun t36 => (if t36.2 = GoErr.nil then (addr_short.l1.m K x0 k (bOr .i64 (shl .i64 x25 6) t36.1) (w64 (x26 + 1))) else ((addr_spot.m x26 t36.2).bind fun t42 => (some (Sum.inl (0, t42)))))) else none) else none) else (some (Sum.inr x25)))) fun (j33 : Bool → Option ((Int × GoErr) ⊕ (Int))) => (if x26 < 2 then (j33 true) else (j33 false)))
def addr_short.m (K : Nat) (x0 : (List Int)) : Option (Int × GoErr) :=
  ((addr_short.l1.m K x0 K 0 0).bind fun s27 => match s27 with | .inl q => (some q) | .inr x28 => (some (x28, GoErr.nil)))

theorem addr_short.calls {B I : Gh} {h : Heap} {K : Nat} {x0 : (List Int)} {a21 : Option Addr} {p22 : Nat} {n23 : Nat} {r : (Int × GoErr)} (H : addr_short.m K x0 = some r)  :
    Fc Tryz.prog 124 #[.slice a21 n23 p22] [rR (tInt .u8) .b a21 p22 n23 x0] B I h (fun v L => ∃ (v46 : Value), v = .tuple #[.int .i64 r.1, v46] ∧ L = [rE .i v46 r.2]) := by
 refine fc_of fun E hs => ?_
 unfold addr_short.m at H
 obtain rfl := hs.nR d0
 refine fn_of (args := [.slice a21 x0.length p22]) (rs := [.tmp 2, .tmp 3]) (N := 30) Tryz.func124 rfl rfl rfl rfl ?_
 refine st 15 [] ?_
 obtain ⟨s27, m30, HR29⟩ := bind_some H
 refine k_loop 0 (fun k' ρ h => ∃ (x25 : Int) (x26 : Int) (I : Gh), addr_short.l1.m K x0 k' x25 x26 = some s27 ∧ Fits [(0, .slice a21 x0.length p22), (4, .int .i64 x25), (8, .int .i64 x26)] ρ ∧ St E [rR (tInt .u8) .b a21 p22 x0.length x0] I h) (fun ρ h => ∃ (x28 : Int) (I : Gh), Sum.inr x28 = s27 ∧ Fits [(4, .int .i64 x28)] ρ ∧ St E [] I h) K ⟨0, 0, I, m30, ⟨by kernel_rfl, by kernel_rfl, by kernel_rfl, trivial⟩, hs.pk (.c d0 .n)⟩ ?_ rfl ?_
 ·clear m30 H
  rintro k' ρ h ⟨x25, x26, I, H, hf, hs⟩
  cases k' with
  | zero => cases H
  | succ k =>
   rw [addr_short.l1.m] at H
   refine k_fits _ hf ?_ rfl
   refine st 1 [] ?_
   obtain ⟨j33, e45, H⟩ := letJ_some H
   refine k_join (fun ρ h => ∃ (x32 : Bool) (I : Gh), j33 x32 = some s27 ∧ Fits [(0, .slice a21 x0.length p22), (4, .int .i64 x25), (8, .int .i64 x26), (9, .bool x32)] ρ ∧ St E [rR (tInt .u8) .b a21 p22 x0.length x0] I h) ?_ ?_
   ·refine st 1 [] (k_ite H (fun c31 H => ?_) (fun c31 H => ?_))
    ·refine st 1 [] ?_
     exact k_end ⟨true, I, H, ⟨by kernel_rfl, by kernel_rfl, by kernel_rfl, by kernel_rfl, trivial⟩, hs.pk (.c d0 .n)⟩
    ·refine st 1 [] ?_
     exact k_end ⟨false, I, H, ⟨by kernel_rfl, by kernel_rfl, by kernel_rfl, by kernel_rfl, trivial⟩, hs.pk (.c d0 .n)⟩
   ·clear H
    rintro ρ h ⟨x32, I, H, hf, hs⟩
    refine k_fits _ hf ?_ rfl
    subst e45
    try dsimp only at H
    cases x32
    ·rw [cond_false] at H
     refine st 2 [false] ?_
     refine k_out rfl ?_
     obtain rfl := Option.some.inj H
     exact xE ⟨x25, I, rfl, ⟨by kernel_rfl, trivial⟩, hs.pk .n⟩
    ·rw [cond_true] at H
     obtain ⟨c34, H⟩ := guard_pos H
     obtain ⟨c35, H⟩ := guard_pos H
     refine st 14 [true] (k_val (elemPtr a21 (x26.toNat * 1)) (pI (e := 5) (ik := .i64) (hs.sR d0) c34 c35) ?_)
     refine k_op (lC ((hs.sR d0).cell1 c34 c35) ?_)
     obtain ⟨hk, bk⟩ := hs.call tk0 .n
     refine k_call H (fun _ m => six_Get.calls m hk) ?_
     rintro t36 _ h H ⟨I, _, ⟨v37, rfl, rfl⟩, hk⟩
     replace hs := bk hk ct1 rfl
     rcases (hs.er d0).cases with ⟨c39, rfl⟩ | ⟨c39, t40, u41, rfl⟩
     ·rw [if_pos c39] at H
      refine st 26 [false] ?_
      exact k_endL ⟨k, Nat.lt_succ_self _, (bOr .i64 (shl .i64 x25 6) t36.1), (w64 (x26 + 1)), I, H, ⟨by kernel_rfl, by kernel_rfl, by kernel_rfl, trivial⟩, hs.pk (.c d1 .n)⟩
     ·rw [if_neg c39] at H
      obtain ⟨hk, bk⟩ := hs.call tk0 (.c (xK d0) .n)
      refine st 17 [true] (k_call H (fun _ m => addr_spot.calls m hk) ?_)
      rintro t42 v43 h H ⟨I, _, ⟨_, rfl, rfl⟩, hk⟩
      replace hs := bk hk ct1 rfl
      refine st 3 [] ?_
      refine k_retQ (krL ?_)
      obtain rfl := Option.some.inj H
      obtain rfl := Option.some.inj HR29
      exact ⟨_, by kernel_rfl, I, _, ⟨(v43), rfl, rfl⟩, hs.pk (.c d0 .n)⟩
 ·rintro ρ h ⟨x28, I, rfl, hf, hs⟩
  have H := HR29
  try dsimp only at H
  refine k_fits _ hf ?_ rfl
  refine st 6 [] ?_
  refine k_retQ ?_
  obtain rfl := Option.some.inj H
  exact ⟨_, by kernel_rfl, I, _, ⟨(.nilIface), rfl, rfl⟩, hs.pk (.f imEN .n)⟩

/-! shutter/addr.Get -/
def addr_Get.m (K : Nat) (x0 : (List Int)) (x1 : Int) : Option (Int × GoErr) :=
  ((addr_sized.m x1).bind fun t25 => bif t25 then (if (x0.length : Int) < 2 then (some (0, (GoErr.no 2))) else (if 0 < (x0.length : Int) then (if 1 < (x0.length : Int) then (letJ (α := Bool → Option (Int × GoErr)) (fun (x30 : Bool) => (bif x30 then ((addr_short.m K x0).bind fun t32 => (if t32.2 = GoErr.nil then (if t32.1 ≥ x1 then (some (0, (GoErr.no 4))) else (some (t32.1, GoErr.nil))) else (some (0, t32.2)))) else (if (at_ x0 0) > 63 then ((addr_spot.m 0 (GoErr.no 3)).bind fun t40 => (some (0, t40))) else (if (bOr .i64 (shl .i64 (w64 ((at_ x0 0))) 8) (w64 ((at_ x0 1)))) ≥ x1 then (some (0, (GoErr.no 4))) else (some ((bOr .i64 (shl .i64 (w64 ((at_ x0 0))) 8) (w64 ((at_ x0 1)))), GoErr.nil)))))) fun (j31 : Bool → Option (Int × GoErr)) => ((addr_Long.m x1).bind fun t29 => bif t29 then (j31 false) else (j31 true))) else none) else none)) else (some (0, (GoErr.no 1))))

theorem addr_Get.calls {B I : Gh} {h : Heap} {K : Nat} {x0 : (List Int)} {x1 : Int} {a21 : Option Addr} {p22 : Nat} {n23 : Nat} {r : (Int × GoErr)} (H : addr_Get.m K x0 x1 = some r)  :
    Fc Tryz.prog 90 #[.slice a21 n23 p22, .int .i64 x1] [rR (tInt .u8) .b a21 p22 n23 x0] B I h (fun v L => ∃ (v45 : Value), v = .tuple #[.int .i64 r.1, v45] ∧ L = [rE .i v45 r.2]) := by
 refine fc_of fun E hs => ?_
 unfold addr_Get.m at H
 obtain rfl := hs.nR d0
 refine fn_of (args := [.slice a21 x0.length p22, .int .i64 x1]) (rs := [.tmp 4, .tmp 5]) (N := 52) Tryz.func90 rfl rfl rfl rfl ?_
 refine st 9 [] (k_call H (fun _ m => addr_sized.calls m) ?_)
 rintro t25 _ _ H ⟨rfl, rfl⟩
 cases t25
 ·rw [cond_false] at H
  refine st 9 [true] ?_
  refine k_retQ ?_
  obtain rfl := Option.some.inj H
  exact ⟨_, by kernel_rfl, I, _, ⟨(.iface 71 (.int .i64 1)), rfl, rfl⟩, hs.pk (.f imEC .n)⟩
 ·rw [cond_true] at H
  refine st 9 [false] (k_ite H (fun c26 H => ?_) (fun c26 H => ?_))
  ·refine st 8 [true] ?_
   refine k_retQ ?_
   obtain rfl := Option.some.inj H
   exact ⟨_, by kernel_rfl, I, _, ⟨(.iface 71 (.int .i64 2)), rfl, rfl⟩, hs.pk (.f imEC .n)⟩
  ·refine st 4 [false] ?_
   obtain ⟨hs0, bk0⟩ := hs.call tk0 (.c (qB d0) .n)
   have hs := hs0
   refine k_regD hs0 11 ?_
   obtain ⟨c27, H⟩ := guard_pos H
   refine aRun [0] 10 hs.keep ?_
   refine aP 1 (elemPtr a21 ((0 : Int).toNat * 1)) rfl (pI (e := 5) (ik := .i64) (hs.sR d0) (by decide) c27) hs.keep ?_
   refine aL 2 rfl hs.keep ((hs0.sR d0).cell1 (by decide) c27) (nmR hs0 d0 (by decide) c27) ?_
   obtain ⟨c28, H⟩ := guard_pos H
   refine aRun [3, 4, 5] 5 hs.keep ?_
   refine aP 6 (elemPtr a21 ((1 : Int).toNat * 1)) rfl (pI (e := 5) (ik := .i64) (hs.sR d0) (by decide) c28) hs.keep ?_
   refine aL 7 rfl hs.keep ((hs0.sR d0).cell1 (by decide) c28) (nmR hs0 d0 (by decide) c28) ?_
   refine aRun [8, 9, 10] 0 hs.keep ?_
   replace hs := hs.pk .n
   replace hs := bk0 hs ct0 rfl
   refine aEnd ?_
   refine st 3 [] ?_
   obtain ⟨j31, e44, H⟩ := letJ_some H
   refine k_join (fun ρ h => ∃ (x30 : Bool) (I : Gh), j31 x30 = some r ∧ Fits [(0, .slice a21 x0.length p22), (1, .int .i64 x1), (6, .int .i64 (bOr .i64 (shl .i64 (w64 ((at_ x0 0))) 8) (w64 ((at_ x0 1))))), (27, .bool x30)] ρ ∧ St E [rR (tInt .u8) .b a21 p22 x0.length x0] I h) ?_ ?_
   ·refine st 2 [] (k_call H (fun _ m => addr_Long.calls m) ?_)
    rintro t29 _ _ H ⟨rfl, rfl⟩
    cases t29
    ·rw [cond_false] at H
     refine st 3 [] ?_
     exact k_end ⟨true, I, H, ⟨by kernel_rfl, by kernel_rfl, by kernel_rfl, by kernel_rfl, trivial⟩, hs.pk (.c d0 .n)⟩
    ·rw [cond_true] at H
     refine st 3 [] ?_
     exact k_end ⟨false, I, H, ⟨by kernel_rfl, by kernel_rfl, by kernel_rfl, by kernel_rfl, trivial⟩, hs.pk (.c d0 .n)⟩
   ·clear H
    rintro ρ h ⟨x30, I, H, hf, hs⟩
    refine k_fits _ hf ?_ rfl
    subst e44
    try dsimp only at H
    cases x30
    ·rw [cond_false] at H
     refine st 4 [false] (k_val (elemPtr a21 ((0 : Int).toNat * 1)) (pI (e := 5) (ik := .i64) (hs.sR d0) (by decide) c27) ?_)
     refine k_op (lC ((hs.sR d0).cell1 (by decide) c27) ?_)
     refine k_ite H (fun c39 H => ?_) (fun c39 H => ?_)
     ·obtain ⟨hk, bk⟩ := hs.call tk0 (.c xC .n)
      refine st 6 [true] (k_call H (fun _ m => addr_spot.calls m hk) ?_)
      rintro t40 v41 h H ⟨I, _, ⟨_, rfl, rfl⟩, hk⟩
      replace hs := bk hk ct1 rfl
      refine st 3 [] ?_
      refine k_retQ ?_
      obtain rfl := Option.some.inj H
      exact ⟨_, by kernel_rfl, I, _, ⟨(v41), rfl, rfl⟩, hs.pk (.c d0 .n)⟩
     ·refine st 10 [false] (k_ite H (fun c43 H => ?_) (fun c43 H => ?_))
      ·refine st 8 [true] ?_
       refine k_retQ ?_
       obtain rfl := Option.some.inj H
       exact ⟨_, by kernel_rfl, I, _, ⟨(.iface 71 (.int .i64 4)), rfl, rfl⟩, hs.pk (.f imEC .n)⟩
      ·refine st 9 [false] ?_
       refine k_retQ ?_
       obtain rfl := Option.some.inj H
       exact ⟨_, by kernel_rfl, I, _, ⟨(.nilIface), rfl, rfl⟩, hs.pk (.f imEN .n)⟩
    ·rw [cond_true] at H
     obtain ⟨hk, bk⟩ := hs.call tk0 (.c (qB d0) .n)
     refine st 4 [true] (k_call H (fun _ m => addr_short.calls m hk) ?_)
     rintro t32 _ h H ⟨I, _, ⟨v33, rfl, rfl⟩, hk⟩
     replace hs := bk hk ct1 rfl
     rcases (hs.er d0).cases with ⟨c35, rfl⟩ | ⟨c35, t36, u37, rfl⟩
     ·rw [if_pos c35] at H
      refine st 24 [false] (k_ite H (fun c38 H => ?_) (fun c38 H => ?_))
      ·refine st 8 [true] ?_
       refine k_retQ ?_
       obtain rfl := Option.some.inj H
       exact ⟨_, by kernel_rfl, I, _, ⟨(.iface 71 (.int .i64 4)), rfl, rfl⟩, hs.pk (.f imEC .n)⟩
      ·refine st 9 [false] ?_
       refine k_retQ ?_
       obtain rfl := Option.some.inj H
       exact ⟨_, by kernel_rfl, I, _, ⟨(.nilIface), rfl, rfl⟩, hs.pk (.f imEN .n)⟩
     ·rw [if_neg c35] at H
      refine st 19 [true] ?_
      refine k_retQ ?_
      obtain rfl := Option.some.inj H
      exact ⟨_, by kernel_rfl, I, _, ⟨((.iface t36 u37)), rfl, rfl⟩, hs.pk (.c d0 .n)⟩

/-! (*shutter/bytes.Cursor).Addr -/
def bytes_Cursor_Addr.m (K : Nat) (x0 : bytes_Cursor) (x1 : Int) : Option (Int × bytes_Cursor) :=
  (if x0.err' = GoErr.nil then (if 0 ≤ x0.at' then (if x0.at' ≤ (x0.b'.length : Int) then ((addr_Get.m K (sub x0.b' x0.at' (x0.b'.length : Int)) x1).bind fun t32 => ((bytes_Cursor_Fail.m x0 t32.2).bind fun t35 => (if t32.2 = GoErr.nil then (some (t32.1, (⟨x0.b', (w64 (t35.at' + 2)), t35.err'⟩ : bytes_Cursor))) else (some (t32.1, (⟨x0.b', t35.at', t35.err'⟩ : bytes_Cursor)))))) else none) else none) else (some (0, x0)))

theorem bytes_Cursor_Addr.calls {B I : Gh} {h : Heap} {K : Nat} {x0 : bytes_Cursor} {x1 : Int} {b0 : Nat} {a21 : Option Addr} {p22 : Nat} {n23 : Nat} {v25 : Value} {r : (Int × bytes_Cursor)} (H : bytes_Cursor_Addr.m K x0 x1 = some r)  :
    Fc Tryz.prog 53 #[.pointer (some ⟨b0, 0, none⟩), .int .i64 x1] [rB b0 [.slice a21 n23 p22, .int .i64 x0.at', v25] 139, rR (tInt .u8) .i a21 p22 n23 x0.b', rE .i v25 x0.err'] B I h (fun v L => ∃ (a41 : Option Addr) (p42 : Nat) (n43 : Nat) (v45 : Value), v = .int .i64 r.1 ∧ L = [rB b0 [.slice a41 n43 p42, .int .i64 r.2.at', v45] 139, rR (tInt .u8) .i a41 p42 n43 r.2.b', rE .i v45 r.2.err']) := by
 refine fc_of fun E hs => ?_
 unfold bytes_Cursor_Addr.m at H
 obtain rfl := hs.nR d1
 refine fn_of (args := [.pointer (some ⟨b0, 0, none⟩), .int .i64 x1]) (rs := [.tmp 4]) (N := 39) Tryz.func53 rfl rfl rfl rfl ?_
 refine st 10 [] (k_op (lB (hs.bl d0) 2 rfl ?_))
 rcases (hs.er d2).cases with ⟨c27, rfl⟩ | ⟨c27, t28, u29, rfl⟩
 ·rw [if_pos c27] at H
  refine st 5 [false] ?_
  obtain ⟨hs0, bk0⟩ := hs.call tk0 (.c (qL d0) (.c (qK d1) .n))
  have hs := hs0
  refine k_regD hs0 16 ?_
  refine aRun [0, 1, 2] 13 hs.keep ?_
  refine aL 3 rfl hs.keep (ll hs0 d0 (n := 0) rfl) (nmL hs0 d0) ?_
  refine aRun [4, 5, 6] 9 hs.keep ?_
  refine aL 7 rfl hs.keep (ll hs0 d0 (n := 1) rfl) (nmL hs0 d0) ?_
  obtain ⟨c30, H⟩ := guard_pos H
  obtain ⟨c31, H⟩ := guard_pos H
  refine aP 8 (.slice (slA a21 p22 (Int.toNat x0.at') 1) ((sub x0.b' x0.at' (x0.b'.length : Int)).length) (p22 - Int.toNat x0.at')) rfl (pSl (e := 5) (k1 := .i64) (hs.sR d1) c30 c31 (Int.le_refl _)) hs.keep ?_
  refine aRun [9] 6 hs.keep ?_
  obtain ⟨hk, bk⟩ := hs.call tk0 (.c (qP (qI d1) (lo := x0.at') (hi := (x0.b'.length : Int)) c30 c31 (Int.le_refl _)) .n)
  refine aO1 10 rfl (o_call H (fun _ m => addr_Get.calls m hk) ?_)
  rintro t32 _ h H ⟨I, _, ⟨v33, rfl, rfl⟩, hk⟩
  replace hs := bk hk ct1 rfl
  refine ⟨hs.keep, ?_⟩
  refine aRun [11, 12, 13, 14, 15] 0 hs.keep ?_
  replace hs := hs.pk (.c d0 .n)
  replace hs := bk0 hs ct1 rfl
  refine aEnd ?_
  obtain ⟨hk, bk⟩ := (hs.f d1).call tk1 (.c (xK d2) (.c (xK d0) .n))
  refine st 4 [] (k_call H (fun _ m => bytes_Cursor_Fail.calls m hk) ?_)
  rintro t35 _ h H ⟨I, _, ⟨v36, rfl, rfl⟩, hk⟩
  replace hs := bk hk ct2 rfl
  rcases (hs.er d2).cases with ⟨c38, rfl⟩ | ⟨c38, t39, u40, rfl⟩
  ·rw [if_pos c38] at H
   refine st 12 [true] (k_op (lB (hs.bl d0) 1 rfl ?_))
   refine st 3 [] (k_op (sB (v := .int .i64 (w64 (t35.at' + 2))) hs cw1 ?_))
   intro h hs
   refine st 6 [] ?_
   refine k_retQ ?_
   obtain rfl := Option.some.inj H
   exact ⟨_, by kernel_rfl, I, _, ⟨a21, p22, x0.b'.length, (v36), rfl, rfl⟩, hs.pk (.c d0 (.c d2 (.c d0 .n)))⟩
  ·rw [if_neg c38] at H
   refine st 14 [false] ?_
   refine k_retQ ?_
   obtain rfl := Option.some.inj H
   exact ⟨_, by kernel_rfl, I, _, ⟨a21, p22, x0.b'.length, (v36), rfl, rfl⟩, hs.pk (.c d0 (.c d2 (.c d0 .n)))⟩
 ·rw [if_neg c27] at H
  refine st 7 [true] ?_
  refine k_retQ ?_
  obtain rfl := Option.some.inj H
  exact ⟨_, by kernel_rfl, I, _, ⟨a21, p22, x0.b'.length, ((.iface t28 u29)), rfl, rfl⟩, hs.pk (.c d0 (.c d0 (.c d0 .n)))⟩

/-! (*shutter/bytes.Cursor).Peek -/
def bytes_Cursor_Peek.m (x0 : bytes_Cursor) : Option (Int × Bool × bytes_Cursor) :=
  (if x0.err' = GoErr.nil then ((bytes_Cursor_Left.m x0).bind fun t30 => (if t30.1 = 0 then (some (0, false, (⟨t30.2.b', t30.2.at', x0.err'⟩ : bytes_Cursor))) else (if 0 ≤ t30.2.at' then (if t30.2.at' < (t30.2.b'.length : Int) then (some ((at_ t30.2.b' t30.2.at'), true, (⟨t30.2.b', t30.2.at', x0.err'⟩ : bytes_Cursor))) else none) else none))) else (some (0, false, x0)))

theorem bytes_Cursor_Peek.calls {B I : Gh} {h : Heap} {x0 : bytes_Cursor} {b0 : Nat} {a21 : Option Addr} {p22 : Nat} {n23 : Nat} {v25 : Value} {r : (Int × Bool × bytes_Cursor)} (H : bytes_Cursor_Peek.m x0 = some r)  :
    Fc Tryz.prog 61 #[.pointer (some ⟨b0, 0, none⟩)] [rB b0 [.slice a21 n23 p22, .int .i64 x0.at', v25] 139, rR (tInt .u8) .i a21 p22 n23 x0.b', rE .i v25 x0.err'] B I h (fun v L => ∃ (a38 : Option Addr) (p39 : Nat) (n40 : Nat) (v42 : Value), v = .tuple #[.int .u8 r.1, .bool r.2.1] ∧ L = [rB b0 [.slice a38 n40 p39, .int .i64 r.2.2.at', v42] 139, rR (tInt .u8) .i a38 p39 n40 r.2.2.b', rE .i v42 r.2.2.err']) := by
 refine fc_of fun E hs => ?_
 unfold bytes_Cursor_Peek.m at H
 obtain rfl := hs.nR d1
 refine fn_of (args := [.pointer (some ⟨b0, 0, none⟩)]) (rs := [.tmp 2, .tmp 3]) (N := 24) Tryz.func61 rfl rfl rfl rfl ?_
 refine st 11 [] (k_op (lB (hs.bl d0) 2 rfl ?_))
 rcases (hs.er d2).cases with ⟨c27, rfl⟩ | ⟨c27, t28, u29, rfl⟩
 ·rw [if_pos c27] at H
  obtain ⟨hk, bk⟩ := hs.call tk1 (.c (qK d0) .n)
  refine st 3 [] (k_call H (fun _ m => bytes_Cursor_Left.calls m hk) ?_)
  rintro t30 _ h H ⟨I, _, ⟨a31, p32, n33, rfl, rfl⟩, hk⟩
  replace hs := bk hk ct2 rfl
  obtain rfl := hs.nR d1
  refine k_ite H (fun c35 H => ?_) (fun c35 H => ?_)
  ·refine st 8 [true] ?_
   refine k_retQ ?_
   obtain rfl := Option.some.inj H
   exact ⟨_, by kernel_rfl, I, _, ⟨a31, p32, t30.2.b'.length, (.nilIface), rfl, rfl⟩, hs.pk (.c d0 (.c d0 (.c d1 .n)))⟩
  ·refine st 5 [false] ?_
   obtain ⟨hs0, bk0⟩ := hs.call tk0 (.c (qL d0) (.c (qK d1) .n))
   have hs := hs0
   refine k_regD hs0 12 ?_
   refine aRun [0, 1, 2] 9 hs.keep ?_
   refine aL 3 rfl hs.keep (ll hs0 d0 (n := 0) rfl) (nmL hs0 d0) ?_
   refine aRun [4, 5, 6] 5 hs.keep ?_
   refine aL 7 rfl hs.keep (ll hs0 d0 (n := 1) rfl) (nmL hs0 d0) ?_
   obtain ⟨c36, H⟩ := guard_pos H
   obtain ⟨c37, H⟩ := guard_pos H
   refine aP 8 (elemPtr a31 (t30.2.at'.toNat * 1)) rfl (pI (e := 5) (ik := .i64) (hs.sR d1) c36 c37) hs.keep ?_
   refine aL 9 rfl hs.keep ((hs0.sR d1).cell1 c36 c37) (nmR hs0 d1 c36 c37) ?_
   refine aRun [10, 11] 0 hs.keep ?_
   replace hs := hs.pk .n
   replace hs := bk0 hs ct0 rfl
   refine aEnd ?_
   refine k_retQ ?_
   obtain rfl := Option.some.inj H
   exact ⟨_, by kernel_rfl, I, _, ⟨a31, p32, t30.2.b'.length, (.nilIface), rfl, rfl⟩, hs.pk (.c d0 (.c d0 (.c d1 .n)))⟩
 ·rw [if_neg c27] at H
  refine st 13 [true] ?_
  refine k_retQ ?_
  obtain rfl := Option.some.inj H
  exact ⟨_, by kernel_rfl, I, _, ⟨a21, p22, x0.b'.length, ((.iface t28 u29)), rfl, rfl⟩, hs.pk (.c d0 (.c d0 (.c d0 .n)))⟩

/-! shutter/input.letters -/
def input_letters.l1.m (K : Nat) : Nat → (List Int) → Int → Bool → (List Int) → Int → GoErr → Option ((List Int) × (List Int) × Int × GoErr)
  | 0, _, _, _, _, _, _ => none
  | k + 1, x47, x52, x53, x54, x59, x60 => (bif x53 then ((input_letter.m x52).bind fun t81 => bif t81 then ((bytes_Cursor_Byte.m (⟨x54, x59, x60⟩ : bytes_Cursor)).bind fun t82 => ((app x47 [t82.1]).bind fun l91 => ((bytes_Cursor_Peek.m t82.2).bind fun t96 => (bif t96.2.1 then (input_letters.l1.m K k l91 t96.1 true t96.2.2.b' t96.2.2.at' t96.2.2.err') else (input_letters.l1.m K k l91 t96.1 false t96.2.2.b' t96.2.2.at' t96.2.2.err'))))) else (some ((x47, x54, x59, x60)))) else (some ((x47, x54, x59, x60))))
def input_letters.m (K : Nat) (x0 : bytes_Cursor) : Option ((List Int) × bytes_Cursor) :=
  (letJ (α := Int → Bool → (List Int) → Int → GoErr → Option ((List Int) × bytes_Cursor)) (fun (x35 : Int) (x36 : Bool) (x37 : List Int) (x42 : Int) (x43 : GoErr) => ((input_letters.l1.m K K [] x35 x36 x37 x42 x43).bind fun (x64, x69, x74, x75) => (some (x64, (⟨x69, x74, x75⟩ : bytes_Cursor))))) fun (j46 : Int → Bool → (List Int) → Int → GoErr → Option ((List Int) × bytes_Cursor)) => ((bytes_Cursor_Peek.m x0).bind fun t27 => (bif t27.2.1 then (j46 t27.1 true t27.2.2.b' t27.2.2.at' t27.2.2.err') else (j46 t27.1 false t27.2.2.b' t27.2.2.at' t27.2.2.err'))))

theorem input_letters.calls {B I : Gh} {h : Heap} {K : Nat} {x0 : bytes_Cursor} {b0 : Nat} {a21 : Option Addr} {p22 : Nat} {n23 : Nat} {v25 : Value} {r : ((List Int) × bytes_Cursor)} (H : input_letters.m K x0 = some r)  :
    Fc Tryz.prog 93 #[.pointer (some ⟨b0, 0, none⟩)] [rB b0 [.slice a21 n23 p22, .int .i64 x0.at', v25] 139, rR (tInt .u8) .i a21 p22 n23 x0.b', rE .i v25 x0.err'] B I h (fun v L => ∃ (a105 : Option Addr) (p106 : Nat) (n107 : Nat) (a109 : Option Addr) (p110 : Nat) (n111 : Nat) (v113 : Value), v = .slice a105 n107 p106 ∧ L = [rO (tInt .u8) .i a105 p106 n107 r.1, rB b0 [.slice a109 n111 p110, .int .i64 r.2.at', v113] 139, rR (tInt .u8) .i a109 p110 n111 r.2.b', rE .i v113 r.2.err']) := by
 refine fc_of fun E hs => ?_
 unfold input_letters.m at H
 obtain rfl := hs.nR d1
 refine fn_of (args := [.pointer (some ⟨b0, 0, none⟩)]) (rs := [.tmp 2]) (N := 27) Tryz.func93 rfl rfl rfl rfl ?_
 refine st 10 [] ?_
 obtain ⟨j46, e104, H⟩ := letJ_some H
 refine k_join (fun ρ h => ∃ (x35 : Int) (x36 : Bool) (x37 : List Int) (x42 : Int) (x43 : GoErr) (a38 : Option Addr) (p39 : Nat) (n40 : Nat) (v44 : Value) (I : Gh), j46 x35 x36 x37 x42 x43 = some r ∧ Fits [(0, .pointer (some ⟨b0, 0, none⟩)), (3, .slice none 0 0), (4, .int .u8 x35), (5, .bool x36)] ρ ∧ St E [rR (tInt .u8) .i a38 p39 n40 x37, rE .i v44 x43, rB b0 [.slice a38 n40 p39, .int .i64 x42, v44] 139] I h) ?_ ?_
 ·obtain ⟨hk, bk⟩ := hs.call tk1 (.c (qK d0) (.c (xK d1) .n))
  refine st 2 [] (k_call H (fun _ m => bytes_Cursor_Peek.calls m hk) ?_)
  rintro t27 _ h H ⟨I, _, ⟨a28, p29, n30, v32, rfl, rfl⟩, hk⟩
  replace hs := bk hk ct3 rfl
  obtain rfl := hs.nR d1
  refine st 2 [] (k_if H (fun c34 H => ?_) (fun c34 H => ?_))
  ·refine st 3 [] ?_
   exact k_end ⟨t27.1, true, t27.2.2.b', t27.2.2.at', t27.2.2.err', a28, p29, t27.2.2.b'.length, v32, I, H, ⟨by kernel_rfl, by kernel_rfl, by kernel_rfl, by kernel_rfl, trivial⟩, hs.pk (.c d1 (.c d1 (.c d0 .n)))⟩
  ·refine st 3 [] ?_
   exact k_end ⟨t27.1, false, t27.2.2.b', t27.2.2.at', t27.2.2.err', a28, p29, t27.2.2.b'.length, v32, I, H, ⟨by kernel_rfl, by kernel_rfl, by kernel_rfl, by kernel_rfl, trivial⟩, hs.pk (.c d1 (.c d1 (.c d0 .n)))⟩
 ·clear H
  rintro ρ h ⟨x35, x36, x37, x42, x43, a38, p39, n40, v44, I, H, hf, hs⟩
  refine k_fits _ hf ?_ rfl
  subst e104
  try dsimp only at H
  obtain rfl := hs.nR d0
  refine st 1 [] ?_
  obtain ⟨s63, m79, HR78⟩ := bind_some H
  refine k_loop 0 (fun k' ρ h => ∃ (x47 : List Int) (x52 : Int) (x53 : Bool) (x54 : List Int) (x59 : Int) (x60 : GoErr) (a48 : Option Addr) (p49 : Nat) (n50 : Nat) (a55 : Option Addr) (p56 : Nat) (n57 : Nat) (v61 : Value) (I : Gh), input_letters.l1.m K k' x47 x52 x53 x54 x59 x60 = some s63 ∧ Fits [(0, .pointer (some ⟨b0, 0, none⟩)), (3, .slice a48 n50 p49), (4, .int .u8 x52), (5, .bool x53)] ρ ∧ St E [rO (tInt .u8) .i a48 p49 n50 x47, rR (tInt .u8) .i a55 p56 n57 x54, rE .i v61 x60, rB b0 [.slice a55 n57 p56, .int .i64 x59, v61] 139] I h) (fun ρ h => ∃ (x64 : List Int) (x69 : List Int) (x74 : Int) (x75 : GoErr) (a65 : Option Addr) (p66 : Nat) (n67 : Nat) (a70 : Option Addr) (p71 : Nat) (n72 : Nat) (v76 : Value) (I : Gh), (x64, x69, x74, x75) = s63 ∧ Fits [(3, .slice a65 n67 p66)] ρ ∧ St E [rO (tInt .u8) .i a65 p66 n67 x64, rR (tInt .u8) .i a70 p71 n72 x69, rE .i v76 x75, rB b0 [.slice a70 n72 p71, .int .i64 x74, v76] 139] I h) K ⟨[], x35, x36, x37, x42, x43, none, 0, 0, a38, p39, x37.length, v44, I, m79, ⟨by kernel_rfl, by kernel_rfl, by kernel_rfl, by kernel_rfl, trivial⟩, hs.pk (.f imON (.c d0 (.c d0 (.c d0 .n))))⟩ ?_ rfl ?_
  ·clear HR78 m79 H
   rintro k' ρ h ⟨x47, x52, x53, x54, x59, x60, a48, p49, n50, a55, p56, n57, v61, I, H, hf, hs⟩
   cases k' with
   | zero => cases H
   | succ k =>
    rw [input_letters.l1.m] at H
    refine k_fits _ hf ?_ rfl
    obtain rfl := hs.nO d0
    obtain rfl := hs.nR d1
    refine st 3 [] (k_if H (fun c80 H => ?_) (fun c80 H => ?_))
    ·refine st 2 [] (k_call H (fun _ m => input_letter.calls m) ?_)
     rintro t81 _ _ H ⟨rfl, rfl⟩
     cases t81
     ·rw [cond_false] at H
      refine st 3 [false] ?_
      refine k_out rfl ?_
      obtain rfl := Option.some.inj H
      exact xE ⟨x47, x54, x59, x60, a48, p49, x47.length, a55, p56, x54.length, v61, I, rfl, ⟨by kernel_rfl, trivial⟩, hs.pk (.c d0 (.c d0 (.c d0 (.c d0 .n))))⟩
     ·rw [cond_true] at H
      obtain ⟨hk, bk⟩ := (hs.f d3).call tk1 (.c (qK d1) (.c (xK d2) .n))
      refine st 9 [true] (k_call H (fun _ m => bytes_Cursor_Byte.calls m hk) ?_)
      rintro t82 _ h H ⟨I, _, ⟨a83, p84, n85, v87, rfl, rfl⟩, hk⟩
      replace hs := bk hk ct3 rfl
      obtain rfl := hs.nR d1
      refine k_op (nS (e := 5) hs .i (tInt .u8) ([t82.1] : List Int) [.int .u8 t82.1] 1 (.int .u8 0) (Reps.int (I := (Cl.G .i E.B I)) (k := .u8) (l := [t82.1])) ?_)
      intro b89 h hs
      replace hs := (hs.f d4)
      obtain ⟨l91, m92, H⟩ := bind_some H
      refine k_op (aO (e := 5) (bytes := 1) hs (hs.sO d1) m92 ?_)
      intro a93 p94 h hs
      obtain ⟨hk, bk⟩ := (hs.f d2).call tk1 (.c (qK d2) (.c (xK d3) .n))
      refine st 5 [] (k_call H (fun _ m => bytes_Cursor_Peek.calls m hk) ?_)
      rintro t96 _ h H ⟨I, _, ⟨a97, p98, n99, v101, rfl, rfl⟩, hk⟩
      replace hs := bk hk ct3 rfl
      obtain rfl := hs.nR d1
      refine st 2 [] (k_if H (fun c103 H => ?_) (fun c103 H => ?_))
      ·refine st 3 [] ?_
       exact k_endL ⟨k, Nat.lt_succ_self _, l91, t96.1, true, t96.2.2.b', t96.2.2.at', t96.2.2.err', a93, p94, l91.length, a97, p98, t96.2.2.b'.length, v101, I, H, ⟨by kernel_rfl, by kernel_rfl, by kernel_rfl, by kernel_rfl, trivial⟩, hs.pk (.c d3 (.c d1 (.c d1 (.c d0 .n))))⟩
      ·refine st 3 [] ?_
       exact k_endL ⟨k, Nat.lt_succ_self _, l91, t96.1, false, t96.2.2.b', t96.2.2.at', t96.2.2.err', a93, p94, l91.length, a97, p98, t96.2.2.b'.length, v101, I, H, ⟨by kernel_rfl, by kernel_rfl, by kernel_rfl, by kernel_rfl, trivial⟩, hs.pk (.c d3 (.c d1 (.c d1 (.c d0 .n))))⟩
    ·refine st 6 [false] ?_
     refine k_out rfl ?_
     obtain rfl := Option.some.inj H
     exact xE ⟨x47, x54, x59, x60, a48, p49, x47.length, a55, p56, x54.length, v61, I, rfl, ⟨by kernel_rfl, trivial⟩, hs.pk (.c d0 (.c d0 (.c d0 (.c d0 .n))))⟩
  ·rintro ρ h ⟨x64, x69, x74, x75, a65, p66, n67, a70, p71, n72, v76, I, rfl, hf, hs⟩
   have H := HR78
   try dsimp only at H
   refine k_fits _ hf ?_ rfl
   obtain rfl := hs.nO d0
   obtain rfl := hs.nR d1
   refine st 5 [] ?_
   refine k_retQ ?_
   obtain rfl := Option.some.inj H
   exact ⟨_, by kernel_rfl, I, _, ⟨a65, p66, x64.length, a70, p71, x69.length, (v76), rfl, rfl⟩, hs.pk (.c d0 (.c d2 (.c d0 (.c d0 .n))))⟩

end Go.Proofs.YtfbcjibdgicaoaaGreatDoor.Sx
