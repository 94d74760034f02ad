/- Printed walks, part 2: each function's model, and that the code comes to it. -/
import Derived.Test.YtooaghempnlclaaDoorProg
import Derived.Test.YtooaghempnlclaaDoorV4
import Derived.Test.YtooaghempnlclaaDoorV5
import Derived.Test.YtooaghempnlclaaDoorG1
namespace Go.Proofs.YtooaghempnlclaaDoor.Sx
open Go
set_option maxRecDepth 100000

/-! shutter/shutterref01.Block -/
def shutterref01_Block.l1.m (K : Nat) (x1 : (List Int)) : Nat → (List Int) → Int → Option ((List Int))
  | 0, _, _ => none
  | k + 1, x28, x33 => (if x33 < 64 then (letJ (α := Bool → Option ((List Int))) (fun (x44 : Bool) => (bif x44 then (if 0 ≤ (w64 (4 * x33)) then (if (w64 (4 * x33)) < (x1.length : Int) then (if 0 ≤ (w64 ((w64 (4 * x33)) + 1)) then (if (w64 ((w64 (4 * x33)) + 1)) < (x1.length : Int) then (if 0 ≤ (w64 ((w64 (4 * x33)) + 2)) then (if (w64 ((w64 (4 * x33)) + 2)) < (x1.length : Int) then (if 0 ≤ (w64 ((w64 (4 * x33)) + 3)) then (if (w64 ((w64 (4 * x33)) + 3)) < (x1.length : Int) then ((app x28 [(w64 ((w64 ((w64 ((w64 (16777216 * (w64 ((at_ x1 (w64 (4 * x33))))))) + (w64 (65536 * (w64 ((at_ x1 (w64 ((w64 (4 * x33)) + 1))))))))) + (w64 (256 * (w64 ((at_ x1 (w64 ((w64 (4 * x33)) + 2))))))))) + (w64 ((at_ x1 (w64 ((w64 (4 * x33)) + 3)))))))]).bind fun l56 => (shutterref01_Block.l1.m K x1 k l56 (w64 (x33 + 1)))) else none) else none) else none) else none) else none) else none) else none) else none) else (if 0 ≤ (w64 (x33 - 15)) then (if (w64 (x33 - 15)) < (x28.length : Int) then (if 0 ≤ (w64 (x33 - 2)) then (if (w64 (x33 - 2)) < (x28.length : Int) then ((shutterref01_turn.m (at_ x28 (w64 (x33 - 15))) 7).bind fun t65 => ((shutterref01_turn.m (at_ x28 (w64 (x33 - 15))) 18).bind fun t66 => ((shutterref01_turn.m (at_ x28 (w64 (x33 - 2))) 17).bind fun t67 => ((shutterref01_turn.m (at_ x28 (w64 (x33 - 2))) 19).bind fun t68 => (if 0 ≤ (w64 (x33 - 7)) then (if (w64 (x33 - 7)) < (x28.length : Int) then (if 0 ≤ (w64 (x33 - 16)) then (if (w64 (x33 - 16)) < (x28.length : Int) then ((app x28 [(Int.tmod (w64 ((w64 ((w64 ((bXor .i64 (bXor .i64 t67 t68) (shr .i64 (at_ x28 (w64 (x33 - 2))) 10)) + (at_ x28 (w64 (x33 - 7))))) + (bXor .i64 (bXor .i64 t65 t66) (shr .i64 (at_ x28 (w64 (x33 - 15))) 3)))) + (at_ x28 (w64 (x33 - 16))))) 4294967296)]).bind fun l75 => (shutterref01_Block.l1.m K x1 k l75 (w64 (x33 + 1)))) else none) else none) else none) else none))))) else none) else none) else none) else none))) fun (j45 : Bool → Option ((List Int))) => (if x33 < 16 then (j45 true) else (j45 false))) else (some (x28)))
def shutterref01_Block.l2.m (K : Nat) (x35 : List Int) : Nat → Int → (List Int) → Option ((List Int))
  | 0, _, _ => none
  | k + 1, x82, x84 => (if x82 < 64 then ((shutterref01_turn.m (at_ x84 4) 6).bind fun t91 => ((shutterref01_turn.m (at_ x84 4) 11).bind fun t92 => ((shutterref01_turn.m (at_ x84 4) 25).bind fun t93 => ((shutterref01_both.m (at_ x84 4) (at_ x84 5)).bind fun t94 => ((shutterref01_both.m (w64 (4294967295 - (at_ x84 4))) (at_ x84 6)).bind fun t95 => (if 0 ≤ x82 then (if x82 < (x35.length : Int) then ((shutterref01_Word.m K (⟨#[52, 50, 56, 97, 50, 102, 57, 56, 55, 49, 51, 55, 52, 52, 57, 49, 98, 53, 99, 48, 102, 98, 99, 102, 101, 57, 98, 53, 100, 98, 97, 53, 51, 57, 53, 54, 99, 50, 53, 98, 53, 57, 102, 49, 49, 49, 102, 49, 57, 50, 51, 102, 56, 50, 97, 52, 97, 98, 49, 99, 53, 101, 100, 53, 100, 56, 48, 55, 97, 97, 57, 56, 49, 50, 56, 51, 53, 98, 48, 49, 50, 52, 51, 49, 56, 53, 98, 101, 53, 53, 48, 99, 55, 100, 99, 51, 55, 50, 98, 101, 53, 100, 55, 52, 56, 48, 100, 101, 98, 49, 102, 101, 57, 98, 100, 99, 48, 54, 97, 55, 99, 49, 57, 98, 102, 49, 55, 52, 101, 52, 57, 98, 54, 57, 99, 49, 101, 102, 98, 101, 52, 55, 56, 54, 48, 102, 99, 49, 57, 100, 99, 54, 50, 52, 48, 99, 97, 49, 99, 99, 50, 100, 101, 57, 50, 99, 54, 102, 52, 97, 55, 52, 56, 52, 97, 97, 53, 99, 98, 48, 97, 57, 100, 99, 55, 54, 102, 57, 56, 56, 100, 97, 57, 56, 51, 101, 53, 49, 53, 50, 97, 56, 51, 49, 99, 54, 54, 100, 98, 48, 48, 51, 50, 55, 99, 56, 98, 102, 53, 57, 55, 102, 99, 55, 99, 54, 101, 48, 48, 98, 102, 51, 100, 53, 97, 55, 57, 49, 52, 55, 48, 54, 99, 97, 54, 51, 53, 49, 49, 52, 50, 57, 50, 57, 54, 55, 50, 55, 98, 55, 48, 97, 56, 53, 50, 101, 49, 98, 50, 49, 51, 56, 52, 100, 50, 99, 54, 100, 102, 99, 53, 51, 51, 56, 48, 100, 49, 51, 54, 53, 48, 97, 55, 51, 53, 52, 55, 54, 54, 97, 48, 97, 98, 98, 56, 49, 99, 50, 99, 57, 50, 101, 57, 50, 55, 50, 50, 99, 56, 53, 97, 50, 98, 102, 101, 56, 97, 49, 97, 56, 49, 97, 54, 54, 52, 98, 99, 50, 52, 98, 56, 98, 55, 48, 99, 55, 54, 99, 53, 49, 97, 51, 100, 49, 57, 50, 101, 56, 49, 57, 100, 54, 57, 57, 48, 54, 50, 52, 102, 52, 48, 101, 51, 53, 56, 53, 49, 48, 54, 97, 97, 48, 55, 48, 49, 57, 97, 52, 99, 49, 49, 54, 49, 101, 51, 55, 54, 99, 48, 56, 50, 55, 52, 56, 55, 55, 52, 99, 51, 52, 98, 48, 98, 99, 98, 53, 51, 57, 49, 99, 48, 99, 98, 51, 52, 101, 100, 56, 97, 97, 52, 97, 53, 98, 57, 99, 99, 97, 52, 102, 54, 56, 50, 101, 54, 102, 102, 51, 55, 52, 56, 102, 56, 50, 101, 101, 55, 56, 97, 53, 54, 51, 54, 102, 56, 52, 99, 56, 55, 56, 49, 52, 56, 99, 99, 55, 48, 50, 48, 56, 57, 48, 98, 101, 102, 102, 102, 97, 97, 52, 53, 48, 54, 99, 101, 98, 98, 101, 102, 57, 97, 51, 102, 55, 99, 54, 55, 49, 55, 56, 102, 50]⟩ : ByteArray) x82).bind fun t98 => ((shutterref01_turn.m (at_ x84 0) 2).bind fun t99 => ((shutterref01_turn.m (at_ x84 0) 13).bind fun t100 => ((shutterref01_turn.m (at_ x84 0) 22).bind fun t101 => ((shutterref01_both.m (at_ x84 0) (at_ x84 1)).bind fun t102 => ((shutterref01_both.m (at_ x84 0) (at_ x84 2)).bind fun t103 => ((shutterref01_both.m (at_ x84 1) (at_ x84 2)).bind fun t104 => (shutterref01_Block.l2.m K x35 k (w64 (x82 + 1)) [(Int.tmod (w64 ((Int.tmod (w64 ((w64 ((w64 ((w64 ((at_ x84 7) + (bXor .i64 (bXor .i64 t91 t92) t93))) + (bXor .i64 t94 t95))) + t98)) + (at_ x35 x82))) 4294967296) + (Int.tmod (w64 ((bXor .i64 (bXor .i64 t99 t100) t101) + (bXor .i64 (bXor .i64 t102 t103) t104))) 4294967296))) 4294967296), (at_ x84 0), (at_ x84 1), (at_ x84 2), (Int.tmod (w64 ((at_ x84 3) + (Int.tmod (w64 ((w64 ((w64 ((w64 ((at_ x84 7) + (bXor .i64 (bXor .i64 t91 t92) t93))) + (bXor .i64 t94 t95))) + t98)) + (at_ x35 x82))) 4294967296))) 4294967296), (at_ x84 4), (at_ x84 5), (at_ x84 6)])))))))) else none) else none)))))) else (some (x84)))
def shutterref01_Block.l3.m (K : Nat) (x0 : (List Int)) : Nat → Int → (List Int) → Option ((List Int))
  | 0, _, _ => none
  | k + 1, x105, x107 => (if x105 < 8 then (if 0 ≤ x105 then (shutterref01_Block.l3.m K x0 k (w64 (x105 + 1)) (x107.set x105.toNat (Int.tmod (w64 ((at_ x107 x105) + (at_ x0 x105))) 4294967296))) else none) else (some (x107)))
def shutterref01_Block.m (K : Nat) (x0 : (List Int)) (x1 : (List Int)) : Option (List Int) :=
  ((shutterref01_Block.l1.m K x1 K [] 0).bind fun x35 => ((shutterref01_Block.l2.m K x35 K 0 x0).bind fun x87 => ((shutterref01_Block.l3.m K x0 K 0 x87).bind fun x110 => (some x110))))

theorem shutterref01_Block.calls {B I : Gh} {h : Heap} {K : Nat} {x0 : (List Int)} {x1 : (List Int)} {a22 : Option Addr} {p23 : Nat} {n24 : Nat} {r : (List Int)} (H : shutterref01_Block.m K x0 x1 = some r) (hl21 : List.length x0 = 8) :
    Fc Tryd.prog 59 #[.agg (List.map (Value.int .i64) x0).toArray, .slice a22 n24 p23] [rR (tInt .u8) .b a22 p23 n24 x1] B I h (fun v L => v = .agg (List.map (Value.int .i64) r).toArray ∧ L = [] ∧ List.length r = 8) := by
 refine fc_of fun E hs => ?_
 unfold shutterref01_Block.m at H
 obtain rfl := hs.nR d0
 refine fn_of2 (args := [.agg (List.map (Value.int .i64) x0).toArray, .slice a22 x1.length p23]) (rs := [.cell 4 111]) (N := 215) Tryd.func59 rfl rfl rfl rfl ?_
 refine st 2 [] (k_op (nB hs (List.map (Value.int .i64) x0) ?_))
 intro b26 h hs
 refine k_op (nA hs (List.map (Value.int .i64) (List.replicate 8 (0 : Int))) (.agg (List.map (Value.int .i64) (List.replicate 8 (0 : Int))).toArray) ?_)
 intro b27 h hs
 refine st 11 [] ?_
 obtain ⟨s34, m41, HR40⟩ := bind_some H
 refine k_loop 0 (fun k' ρ h => ∃ (x28 : List Int) (x33 : Int) (a29 : Option Addr) (p30 : Nat) (n31 : Nat) (I : Gh), shutterref01_Block.l1.m K x1 k' x28 x33 = some s34 ∧ Fits [(1, .slice a22 x1.length p23), (2, .pointer (some ⟨b26, 0, none⟩)), (4, .pointer (some ⟨b27, 0, none⟩)), (5, .slice a29 n31 p30), (6, .int .i64 x33)] ρ ∧ St E [rR (tInt .u8) .b a22 p23 x1.length x1, rO (tInt .i64) .i a29 p30 n31 x28, rB b26 (List.map (Value.int .i64) x0) 111, rB b27 (List.map (Value.int .i64) (List.replicate 8 (0 : Int))) 111] I h) (fun ρ h => ∃ (x35 : List Int) (a36 : Option Addr) (p37 : Nat) (n38 : Nat) (I : Gh), x35 = s34 ∧ Fits [(2, .pointer (some ⟨b26, 0, none⟩)), (4, .pointer (some ⟨b27, 0, none⟩)), (5, .slice a36 n38 p37)] ρ ∧ St E [rO (tInt .i64) .i a36 p37 n38 x35, rB b26 (List.map (Value.int .i64) x0) 111, rB b27 (List.map (Value.int .i64) (List.replicate 8 (0 : Int))) 111] I h) K ⟨[], 0, none, 0, 0, I, m41, ⟨by kernel_rfl, by kernel_rfl, by kernel_rfl, by kernel_rfl, by kernel_rfl, trivial⟩, hs.pk (.c d2 (.f imON (.c d1 (.c d0 .n))))⟩ ?_ rfl ?_
 ·clear HR40 m41 H
  rintro k' ρ h ⟨x28, x33, a29, p30, n31, I, H, hf, hs⟩
  cases k' with
  | zero => cases H
  | succ k =>
   rw [shutterref01_Block.l1.m] at H
   refine k_fits _ hf ?_ rfl
   obtain rfl := hs.nO d1
   refine st 4 [] (k_ite H (fun c42 H => ?_) (fun c42 H => ?_))
   ·refine st 7 [true] ?_
    obtain ⟨j45, e80, H⟩ := letJ_some H
    refine k_join (fun ρ h => ∃ (x44 : Bool) (I : Gh), j45 x44 = some s34 ∧ Fits [(1, .slice a22 x1.length p23), (2, .pointer (some ⟨b26, 0, none⟩)), (4, .pointer (some ⟨b27, 0, none⟩)), (5, .slice a29 x28.length p30), (6, .int .i64 x33), (27, .bool x44)] ρ ∧ St E [rR (tInt .u8) .b a22 p23 x1.length x1, rO (tInt .i64) .i a29 p30 x28.length x28, rB b26 (List.map (Value.int .i64) x0) 111, rB b27 (List.map (Value.int .i64) (List.replicate 8 (0 : Int))) 111] I h) ?_ ?_
    ·refine st 2 [] (k_ite H (fun c43 H => ?_) (fun c43 H => ?_))
     ·refine st 1 [] ?_
      exact k_end ⟨true, I, H, ⟨by kernel_rfl, by kernel_rfl, by kernel_rfl, by kernel_rfl, by kernel_rfl, by kernel_rfl, trivial⟩, hs.pk (.c d0 (.c d0 (.c d0 (.c d0 .n))))⟩
     ·refine st 1 [] ?_
      exact k_end ⟨false, I, H, ⟨by kernel_rfl, by kernel_rfl, by kernel_rfl, by kernel_rfl, by kernel_rfl, by kernel_rfl, trivial⟩, hs.pk (.c d0 (.c d0 (.c d0 (.c d0 .n))))⟩
    ·clear H
     rintro ρ h ⟨x44, I, H, hf, hs⟩
     refine k_fits _ hf ?_ rfl
     subst e80
     try dsimp only at H
     cases x44
     ·rw [cond_false] at H
      obtain ⟨c61, H⟩ := guard_pos H
      obtain ⟨c62, H⟩ := guard_pos H
      refine st 7 [false] (k_val (elemPtr a29 ((w64 (x33 - 15)).toNat * 1)) (pI (e := 3) (ik := .i64) (hs.sO d1) c61 c62) ?_)
      refine k_op (lC ((hs.sO d1).cell1 c61 c62) ?_)
      obtain ⟨c63, H⟩ := guard_pos H
      obtain ⟨c64, H⟩ := guard_pos H
      refine st 7 [] (k_val (elemPtr a29 ((w64 (x33 - 2)).toNat * 1)) (pI (e := 3) (ik := .i64) (hs.sO d1) c63 c64) ?_)
      refine k_op (lC ((hs.sO d1).cell1 c63 c64) ?_)
      refine st 5 [] (k_call H (fun _ m => shutterref01_turn.calls m) ?_)
      rintro t65 _ _ H ⟨rfl, rfl⟩
      refine st 1 [] (k_call H (fun _ m => shutterref01_turn.calls m) ?_)
      rintro t66 _ _ H ⟨rfl, rfl⟩
      refine st 9 [] (k_call H (fun _ m => shutterref01_turn.calls m) ?_)
      rintro t67 _ _ H ⟨rfl, rfl⟩
      refine st 1 [] (k_call H (fun _ m => shutterref01_turn.calls m) ?_)
      rintro t68 _ _ H ⟨rfl, rfl⟩
      refine st 6 [] ?_
      obtain ⟨hs0, bk0⟩ := hs.call tk0 (.c (qO d1) .n)
      have hs := hs0
      refine k_regD hs0 18 ?_
      obtain ⟨c69, H⟩ := guard_pos H
      obtain ⟨c70, H⟩ := guard_pos H
      refine aRun [0, 1, 2, 3, 4] 15 hs.keep ?_
      refine aP 5 (elemPtr a29 ((w64 (x33 - 7)).toNat * 1)) rfl (pI (e := 3) (ik := .i64) (hs.sR d0) c69 c70) hs.keep ?_
      refine aL 6 rfl hs.keep ((hs0.sR d0).cell1 c69 c70) (nmR hs0 d0 c69 c70) ?_
      obtain ⟨c71, H⟩ := guard_pos H
      obtain ⟨c72, H⟩ := guard_pos H
      refine aRun [7, 8, 9, 10, 11, 12] 7 hs.keep ?_
      refine aP 13 (elemPtr a29 ((w64 (x33 - 16)).toNat * 1)) rfl (pI (e := 3) (ik := .i64) (hs.sR d0) c71 c72) hs.keep ?_
      refine aL 14 rfl hs.keep ((hs0.sR d0).cell1 c71 c72) (nmR hs0 d0 c71 c72) ?_
      refine aRun [15, 16] 3 hs.keep ?_
      refine aO1 17 rfl (nS (e := 3) hs .i (tInt .i64) ([(Int.tmod (w64 ((w64 ((w64 ((bXor .i64 (bXor .i64 t67 t68) (shr .i64 (at_ x28 (w64 (x33 - 2))) 10)) + (at_ x28 (w64 (x33 - 7))))) + (bXor .i64 (bXor .i64 t65 t66) (shr .i64 (at_ x28 (w64 (x33 - 15))) 3)))) + (at_ x28 (w64 (x33 - 16))))) 4294967296)] : List Int) [.int .i64 (Int.tmod (w64 ((w64 ((w64 ((bXor .i64 (bXor .i64 t67 t68) (shr .i64 (at_ x28 (w64 (x33 - 2))) 10)) + (at_ x28 (w64 (x33 - 7))))) + (bXor .i64 (bXor .i64 t65 t66) (shr .i64 (at_ x28 (w64 (x33 - 15))) 3)))) + (at_ x28 (w64 (x33 - 16))))) 4294967296)] 1 (.int .i64 0) (Reps.int (I := (Cl.G .i E.B I)) (k := .i64) (l := [(Int.tmod (w64 ((w64 ((w64 ((bXor .i64 (bXor .i64 t67 t68) (shr .i64 (at_ x28 (w64 (x33 - 2))) 10)) + (at_ x28 (w64 (x33 - 7))))) + (bXor .i64 (bXor .i64 t65 t66) (shr .i64 (at_ x28 (w64 (x33 - 15))) 3)))) + (at_ x28 (w64 (x33 - 16))))) 4294967296)])) ?_)
      intro b73 h hs
      refine ⟨hs.keep, ?_⟩
      replace hs := hs.pk (.c d0 .n)
      replace hs := bk0 hs ct1 rfl
      replace hs := (hs.f d2)
      obtain ⟨l75, m76, H⟩ := bind_some H
      refine aOL 18 rfl (aO (e := 3) (bytes := 8) hs (hs.sO d1) m76 ?_)
      intro a77 p78 h hs
      refine aOL 19 rfl (owp_pure (.slice a77 l75.length p78) (by kernel_rfl) ?_)
      refine aEnd ?_
      refine st 6 [] ?_
      exact k_endL ⟨k, Nat.lt_succ_self _, l75, (w64 (x33 + 1)), a77, p78, l75.length, I, H, ⟨by kernel_rfl, by kernel_rfl, by kernel_rfl, by kernel_rfl, by kernel_rfl, trivial⟩, hs.pk (.c d2 (.c d0 (.c d1 (.c d1 .n))))⟩
     ·rw [cond_true] at H
      refine st 2 [true] ?_
      obtain ⟨hs0, bk0⟩ := hs.call tk0 (.c (qB d0) .n)
      have hs := hs0
      refine k_regD hs0 35 ?_
      obtain ⟨c46, H⟩ := guard_pos H
      obtain ⟨c47, H⟩ := guard_pos H
      refine aRun [0, 1, 2, 3] 33 hs.keep ?_
      refine aP 4 (elemPtr a22 ((w64 (4 * x33)).toNat * 1)) rfl (pI (e := 5) (ik := .i64) (hs.sR d0) c46 c47) hs.keep ?_
      refine aL 5 rfl hs.keep ((hs0.sR d0).cell1 c46 c47) (nmR hs0 d0 c46 c47) ?_
      obtain ⟨c48, H⟩ := guard_pos H
      obtain ⟨c49, H⟩ := guard_pos H
      refine aRun [6, 7, 8, 9, 10, 11] 25 hs.keep ?_
      refine aP 12 (elemPtr a22 ((w64 ((w64 (4 * x33)) + 1)).toNat * 1)) rfl (pI (e := 5) (ik := .i64) (hs.sR d0) c48 c49) hs.keep ?_
      refine aL 13 rfl hs.keep ((hs0.sR d0).cell1 c48 c49) (nmR hs0 d0 c48 c49) ?_
      obtain ⟨c50, H⟩ := guard_pos H
      obtain ⟨c51, H⟩ := guard_pos H
      refine aRun [14, 15, 16, 17, 18, 19, 20] 16 hs.keep ?_
      refine aP 21 (elemPtr a22 ((w64 ((w64 (4 * x33)) + 2)).toNat * 1)) rfl (pI (e := 5) (ik := .i64) (hs.sR d0) c50 c51) hs.keep ?_
      refine aL 22 rfl hs.keep ((hs0.sR d0).cell1 c50 c51) (nmR hs0 d0 c50 c51) ?_
      obtain ⟨c52, H⟩ := guard_pos H
      obtain ⟨c53, H⟩ := guard_pos H
      refine aRun [23, 24, 25, 26, 27, 28, 29] 7 hs.keep ?_
      refine aP 30 (elemPtr a22 ((w64 ((w64 (4 * x33)) + 3)).toNat * 1)) rfl (pI (e := 5) (ik := .i64) (hs.sR d0) c52 c53) hs.keep ?_
      refine aL 31 rfl hs.keep ((hs0.sR d0).cell1 c52 c53) (nmR hs0 d0 c52 c53) ?_
      refine aRun [32, 33] 3 hs.keep ?_
      refine aO1 34 rfl (nS (e := 3) hs .i (tInt .i64) ([(w64 ((w64 ((w64 ((w64 (16777216 * (w64 ((at_ x1 (w64 (4 * x33))))))) + (w64 (65536 * (w64 ((at_ x1 (w64 ((w64 (4 * x33)) + 1))))))))) + (w64 (256 * (w64 ((at_ x1 (w64 ((w64 (4 * x33)) + 2))))))))) + (w64 ((at_ x1 (w64 ((w64 (4 * x33)) + 3)))))))] : List Int) [.int .i64 (w64 ((w64 ((w64 ((w64 (16777216 * (w64 ((at_ x1 (w64 (4 * x33))))))) + (w64 (65536 * (w64 ((at_ x1 (w64 ((w64 (4 * x33)) + 1))))))))) + (w64 (256 * (w64 ((at_ x1 (w64 ((w64 (4 * x33)) + 2))))))))) + (w64 ((at_ x1 (w64 ((w64 (4 * x33)) + 3)))))))] 1 (.int .i64 0) (Reps.int (I := (Cl.G .i E.B I)) (k := .i64) (l := [(w64 ((w64 ((w64 ((w64 (16777216 * (w64 ((at_ x1 (w64 (4 * x33))))))) + (w64 (65536 * (w64 ((at_ x1 (w64 ((w64 (4 * x33)) + 1))))))))) + (w64 (256 * (w64 ((at_ x1 (w64 ((w64 (4 * x33)) + 2))))))))) + (w64 ((at_ x1 (w64 ((w64 (4 * x33)) + 3)))))))])) ?_)
      intro b54 h hs
      refine ⟨hs.keep, ?_⟩
      replace hs := hs.pk (.c d0 .n)
      replace hs := bk0 hs ct1 rfl
      replace hs := (hs.f d2)
      obtain ⟨l56, m57, H⟩ := bind_some H
      refine aOL 35 rfl (aO (e := 3) (bytes := 8) hs (hs.sO d1) m57 ?_)
      intro a58 p59 h hs
      refine aOL 36 rfl (owp_pure (.slice a58 l56.length p59) (by kernel_rfl) ?_)
      refine aEnd ?_
      refine st 6 [] ?_
      exact k_endL ⟨k, Nat.lt_succ_self _, l56, (w64 (x33 + 1)), a58, p59, l56.length, I, H, ⟨by kernel_rfl, by kernel_rfl, by kernel_rfl, by kernel_rfl, by kernel_rfl, trivial⟩, hs.pk (.c d2 (.c d0 (.c d1 (.c d1 .n))))⟩
   ·refine st 2 [false] ?_
    refine k_out rfl ?_
    obtain rfl := Option.some.inj H
    exact xE ⟨x28, a29, p30, x28.length, I, rfl, ⟨by kernel_rfl, by kernel_rfl, by kernel_rfl, trivial⟩, hs.pk (.c d1 (.c d1 (.c d1 .n)))⟩
 ·rintro ρ h ⟨x35, a36, p37, n38, I, rfl, hf, hs⟩
  have H := HR40
  try dsimp only at H
  refine k_fits _ hf ?_ rfl
  obtain rfl := hs.nO d0
  refine st 2 [] (k_op (lG ((hs.bl d1).arrSeg hl21) ?_))
  refine k_op (nA hs (List.map (Value.int .i64) (List.replicate 8 (0 : Int))) (.agg (List.map (Value.int .i64) (List.replicate 8 (0 : Int))).toArray) ?_)
  intro b81 h hs
  refine k_op (sAN (l2 := x0) hs (List.length_replicate (n := 8) (a := (0 : Int))) hl21 ?_)
  intro h hs
  refine st 7 [] ?_
  obtain ⟨s85, m89, HR88⟩ := bind_some H
  refine k_loop 2 (fun k' ρ h => ∃ (x82 : Int) (x84 : List Int) (I : Gh), shutterref01_Block.l2.m K x35 k' x82 x84 = some s85 ∧ Fits [(2, .pointer (some ⟨b26, 0, none⟩)), (4, .pointer (some ⟨b27, 0, none⟩)), (5, .slice a36 x35.length p37), (11, .pointer (some ⟨b81, 0, none⟩)), (12, .int .i64 x82)] ρ ∧ List.length x84 = 8 ∧ St E [rO (tInt .i64) .i a36 p37 x35.length x35, rB b26 (List.map (Value.int .i64) x0) 111, rB b27 (List.map (Value.int .i64) (List.replicate 8 (0 : Int))) 111, rB b81 (List.map (Value.int .i64) x84) 111] I h) (fun ρ h => ∃ (x87 : List Int) (I : Gh), x87 = s85 ∧ Fits [(2, .pointer (some ⟨b26, 0, none⟩)), (4, .pointer (some ⟨b27, 0, none⟩)), (11, .pointer (some ⟨b81, 0, none⟩))] ρ ∧ List.length x87 = 8 ∧ St E [rB b26 (List.map (Value.int .i64) x0) 111, rB b27 (List.map (Value.int .i64) (List.replicate 8 (0 : Int))) 111, rB b81 (List.map (Value.int .i64) x87) 111] I h) K ⟨0, x0, I, m89, ⟨by kernel_rfl, by kernel_rfl, by kernel_rfl, by kernel_rfl, by kernel_rfl, trivial⟩, hl21, hs.pk (.c d1 (.c d1 (.c d1 (.c d0 .n))))⟩ ?_ rfl ?_
  ·clear HR88 m89 H
   rintro k' ρ h ⟨x82, x84, I, H, hf, hl83, hs⟩
   cases k' with
   | zero => cases H
   | succ k =>
    rw [shutterref01_Block.l2.m] at H
    refine k_fits _ hf ?_ rfl
    refine st 4 [] (k_ite H (fun c90 H => ?_) (fun c90 H => ?_))
    ·refine st 7 [true] (k_val (elemPtr (some ⟨b81, 0, none⟩) ((4 : Int).toNat * 1)) (pr_indexArr (e := 3) (kk := .i64) (n := 8) (by kernel_rfl) (by kernel_rfl) (by kernel_rfl) (by kernel_rfl) (by decide) (by decide)) ?_)
     refine k_op (lC (((hs.bl d3)).arrCell (i := 4) hl83 (by decide) (by decide)) ?_)
     refine st 4 [] (k_val (elemPtr (some ⟨b81, 0, none⟩) ((0 : Int).toNat * 1)) (pr_indexArr (e := 3) (kk := .i64) (n := 8) (by kernel_rfl) (by kernel_rfl) (by kernel_rfl) (by kernel_rfl) (by decide) (by decide)) ?_)
     refine k_op (lC (((hs.bl d3)).arrCell (i := 0) hl83 (by decide) (by decide)) ?_)
     refine st 5 [] (k_call H (fun _ m => shutterref01_turn.calls m) ?_)
     rintro t91 _ _ H ⟨rfl, rfl⟩
     refine st 1 [] (k_call H (fun _ m => shutterref01_turn.calls m) ?_)
     rintro t92 _ _ H ⟨rfl, rfl⟩
     refine st 2 [] (k_call H (fun _ m => shutterref01_turn.calls m) ?_)
     rintro t93 _ _ H ⟨rfl, rfl⟩
     refine st 4 [] ?_
     obtain ⟨hs0, bk0⟩ := hs.call tk0 (.c (qL d3) .n)
     have hs := hs0
     refine k_regD hs0 11 ?_
     refine aRun [0] 10 hs.keep ?_
     refine aP 1 (elemPtr (some ⟨b81, 0, none⟩) ((5 : Int).toNat * 1)) rfl (pr_indexArr (e := 3) (kk := .i64) (n := 8) (by kernel_rfl) (by kernel_rfl) (by kernel_rfl) (by kernel_rfl) (by decide) (by decide)) hs.keep ?_
     refine aL 2 rfl hs.keep ((OwnB.mk (I := No) (hs0.g d0).1 (fun x => x)).arrCell (i := 5) hl83 (by decide) (by decide)) (nmL hs0 d0) ?_
     refine aRun [4, 5] 6 hs.keep ?_
     refine aP 6 (elemPtr (some ⟨b81, 0, none⟩) ((6 : Int).toNat * 1)) rfl (pr_indexArr (e := 3) (kk := .i64) (n := 8) (by kernel_rfl) (by kernel_rfl) (by kernel_rfl) (by kernel_rfl) (by decide) (by decide)) hs.keep ?_
     refine aL 7 rfl hs.keep ((OwnB.mk (I := No) (hs0.g d0).1 (fun x => x)).arrCell (i := 6) hl83 (by decide) (by decide)) (nmL hs0 d0) ?_
     refine aO1 3 rfl (o_call H (fun _ m => shutterref01_both.calls m) ?_)
     rintro t94 _ _ H ⟨rfl, rfl⟩
     refine ⟨hs.keep, ?_⟩
     refine aO1 8 rfl (o_call H (fun _ m => shutterref01_both.calls m) ?_)
     rintro t95 _ _ H ⟨rfl, rfl⟩
     refine ⟨hs.keep, ?_⟩
     refine aRun [9, 10] 0 hs.keep ?_
     replace hs := hs.pk .n
     replace hs := bk0 hs ct0 rfl
     refine aEnd ?_
     refine st 1 [] ?_
     obtain ⟨hs0, bk0⟩ := hs.call tk0 (.c (qL d3) (.c (qO d0) .n))
     have hs := hs0
     refine k_regD hs0 16 ?_
     refine aP 0 (elemPtr (some ⟨b81, 0, none⟩) ((7 : Int).toNat * 1)) rfl (pr_indexArr (e := 3) (kk := .i64) (n := 8) (by kernel_rfl) (by kernel_rfl) (by kernel_rfl) (by kernel_rfl) (by decide) (by decide)) hs.keep ?_
     refine aL 1 rfl hs.keep ((OwnB.mk (I := No) (hs0.g d0).1 (fun x => x)).arrCell (i := 7) hl83 (by decide) (by decide)) (nmL hs0 d0) ?_
     obtain ⟨c96, H⟩ := guard_pos H
     obtain ⟨c97, H⟩ := guard_pos H
     refine aRun [2, 3, 4, 5, 6, 9, 10] 7 hs.keep ?_
     refine aP 11 (elemPtr a36 (x82.toNat * 1)) rfl (pI (e := 3) (ik := .i64) (hs.sR d1) c96 c97) hs.keep ?_
     refine aL 12 rfl hs.keep ((hs0.sR d1).cell1 c96 c97) (nmR hs0 d1 c96 c97) ?_
     refine aO1 7 rfl (o_call H (fun _ m => shutterref01_Word.calls m) ?_)
     rintro t98 _ _ H ⟨rfl, rfl⟩
     refine ⟨hs.keep, ?_⟩
     refine aRun [8, 13, 14, 15] 0 hs.keep ?_
     replace hs := hs.pk .n
     replace hs := bk0 hs ct0 rfl
     refine aEnd ?_
     refine st 3 [] (k_call H (fun _ m => shutterref01_turn.calls m) ?_)
     rintro t99 _ _ H ⟨rfl, rfl⟩
     refine st 1 [] (k_call H (fun _ m => shutterref01_turn.calls m) ?_)
     rintro t100 _ _ H ⟨rfl, rfl⟩
     refine st 2 [] (k_call H (fun _ m => shutterref01_turn.calls m) ?_)
     rintro t101 _ _ H ⟨rfl, rfl⟩
     refine st 4 [] ?_
     obtain ⟨hs0, bk0⟩ := hs.call tk0 (.c (qL d3) .n)
     have hs := hs0
     refine k_regD hs0 16 ?_
     refine aRun [0] 15 hs.keep ?_
     refine aP 1 (elemPtr (some ⟨b81, 0, none⟩) ((1 : Int).toNat * 1)) rfl (pr_indexArr (e := 3) (kk := .i64) (n := 8) (by kernel_rfl) (by kernel_rfl) (by kernel_rfl) (by kernel_rfl) (by decide) (by decide)) hs.keep ?_
     refine aL 2 rfl hs.keep ((OwnB.mk (I := No) (hs0.g d0).1 (fun x => x)).arrCell (i := 1) hl83 (by decide) (by decide)) (nmL hs0 d0) ?_
     refine aRun [4] 12 hs.keep ?_
     refine aP 5 (elemPtr (some ⟨b81, 0, none⟩) ((2 : Int).toNat * 1)) rfl (pr_indexArr (e := 3) (kk := .i64) (n := 8) (by kernel_rfl) (by kernel_rfl) (by kernel_rfl) (by kernel_rfl) (by decide) (by decide)) hs.keep ?_
     refine aL 6 rfl hs.keep ((OwnB.mk (I := No) (hs0.g d0).1 (fun x => x)).arrCell (i := 2) hl83 (by decide) (by decide)) (nmL hs0 d0) ?_
     refine aP 9 (elemPtr (some ⟨b81, 0, none⟩) ((1 : Int).toNat * 1)) rfl (pr_indexArr (e := 3) (kk := .i64) (n := 8) (by kernel_rfl) (by kernel_rfl) (by kernel_rfl) (by kernel_rfl) (by decide) (by decide)) hs.keep ?_
     refine aL 10 rfl hs.keep ((OwnB.mk (I := No) (hs0.g d0).1 (fun x => x)).arrCell (i := 1) hl83 (by decide) (by decide)) (nmL hs0 d0) ?_
     refine aP 11 (elemPtr (some ⟨b81, 0, none⟩) ((2 : Int).toNat * 1)) rfl (pr_indexArr (e := 3) (kk := .i64) (n := 8) (by kernel_rfl) (by kernel_rfl) (by kernel_rfl) (by kernel_rfl) (by decide) (by decide)) hs.keep ?_
     refine aL 12 rfl hs.keep ((OwnB.mk (I := No) (hs0.g d0).1 (fun x => x)).arrCell (i := 2) hl83 (by decide) (by decide)) (nmL hs0 d0) ?_
     refine aO1 3 rfl (o_call H (fun _ m => shutterref01_both.calls m) ?_)
     rintro t102 _ _ H ⟨rfl, rfl⟩
     refine ⟨hs.keep, ?_⟩
     refine aO1 7 rfl (o_call H (fun _ m => shutterref01_both.calls m) ?_)
     rintro t103 _ _ H ⟨rfl, rfl⟩
     refine ⟨hs.keep, ?_⟩
     refine aRun [8] 3 hs.keep ?_
     refine aO1 13 rfl (o_call H (fun _ m => shutterref01_both.calls m) ?_)
     rintro t104 _ _ H ⟨rfl, rfl⟩
     refine ⟨hs.keep, ?_⟩
     refine aRun [14, 15] 0 hs.keep ?_
     replace hs := hs.pk .n
     replace hs := bk0 hs ct0 rfl
     refine aEnd ?_
     refine st 13 [] (k_val (elemPtr (some ⟨b81, 0, none⟩) ((0 : Int).toNat * 1)) (pr_indexArr (e := 3) (kk := .i64) (n := 8) (by kernel_rfl) (by kernel_rfl) (by kernel_rfl) (by kernel_rfl) (by decide) (by decide)) ?_)
     refine k_op (lC (((hs.bl d3)).arrCell (i := 0) hl83 (by decide) (by decide)) ?_)
     refine k_val (elemPtr (some ⟨b81, 0, none⟩) ((1 : Int).toNat * 1)) (pr_indexArr (e := 3) (kk := .i64) (n := 8) (by kernel_rfl) (by kernel_rfl) (by kernel_rfl) (by kernel_rfl) (by decide) (by decide)) ?_
     refine k_op (lC (((hs.bl d3)).arrCell (i := 1) hl83 (by decide) (by decide)) ?_)
     refine k_val (elemPtr (some ⟨b81, 0, none⟩) ((2 : Int).toNat * 1)) (pr_indexArr (e := 3) (kk := .i64) (n := 8) (by kernel_rfl) (by kernel_rfl) (by kernel_rfl) (by kernel_rfl) (by decide) (by decide)) ?_
     refine k_op (lC (((hs.bl d3)).arrCell (i := 2) hl83 (by decide) (by decide)) ?_)
     refine k_val (elemPtr (some ⟨b81, 0, none⟩) ((3 : Int).toNat * 1)) (pr_indexArr (e := 3) (kk := .i64) (n := 8) (by kernel_rfl) (by kernel_rfl) (by kernel_rfl) (by kernel_rfl) (by decide) (by decide)) ?_
     refine k_op (lC (((hs.bl d3)).arrCell (i := 3) hl83 (by decide) (by decide)) ?_)
     refine st 3 [] (k_val (elemPtr (some ⟨b81, 0, none⟩) ((4 : Int).toNat * 1)) (pr_indexArr (e := 3) (kk := .i64) (n := 8) (by kernel_rfl) (by kernel_rfl) (by kernel_rfl) (by kernel_rfl) (by decide) (by decide)) ?_)
     refine k_op (lC (((hs.bl d3)).arrCell (i := 4) hl83 (by decide) (by decide)) ?_)
     refine k_val (elemPtr (some ⟨b81, 0, none⟩) ((5 : Int).toNat * 1)) (pr_indexArr (e := 3) (kk := .i64) (n := 8) (by kernel_rfl) (by kernel_rfl) (by kernel_rfl) (by kernel_rfl) (by decide) (by decide)) ?_
     refine k_op (lC (((hs.bl d3)).arrCell (i := 5) hl83 (by decide) (by decide)) ?_)
     refine k_val (elemPtr (some ⟨b81, 0, none⟩) ((6 : Int).toNat * 1)) (pr_indexArr (e := 3) (kk := .i64) (n := 8) (by kernel_rfl) (by kernel_rfl) (by kernel_rfl) (by kernel_rfl) (by decide) (by decide)) ?_
     refine k_op (lC (((hs.bl d3)).arrCell (i := 6) hl83 (by decide) (by decide)) ?_)
     refine st 1 [] (k_op (sAN (l2 := [(Int.tmod (w64 ((Int.tmod (w64 ((w64 ((w64 ((w64 ((at_ x84 7) + (bXor .i64 (bXor .i64 t91 t92) t93))) + (bXor .i64 t94 t95))) + t98)) + (at_ x35 x82))) 4294967296) + (Int.tmod (w64 ((bXor .i64 (bXor .i64 t99 t100) t101) + (bXor .i64 (bXor .i64 t102 t103) t104))) 4294967296))) 4294967296), (at_ x84 0), (at_ x84 1), (at_ x84 2), (Int.tmod (w64 ((at_ x84 3) + (Int.tmod (w64 ((w64 ((w64 ((w64 ((at_ x84 7) + (bXor .i64 (bXor .i64 t91 t92) t93))) + (bXor .i64 t94 t95))) + t98)) + (at_ x35 x82))) 4294967296))) 4294967296), (at_ x84 4), (at_ x84 5), (at_ x84 6)]) (hs.f d3) hl83 rfl ?_))
     intro h hs
     refine st 7 [] ?_
     exact k_endL ⟨k, Nat.lt_succ_self _, (w64 (x82 + 1)), [(Int.tmod (w64 ((Int.tmod (w64 ((w64 ((w64 ((w64 ((at_ x84 7) + (bXor .i64 (bXor .i64 t91 t92) t93))) + (bXor .i64 t94 t95))) + t98)) + (at_ x35 x82))) 4294967296) + (Int.tmod (w64 ((bXor .i64 (bXor .i64 t99 t100) t101) + (bXor .i64 (bXor .i64 t102 t103) t104))) 4294967296))) 4294967296), (at_ x84 0), (at_ x84 1), (at_ x84 2), (Int.tmod (w64 ((at_ x84 3) + (Int.tmod (w64 ((w64 ((w64 ((w64 ((at_ x84 7) + (bXor .i64 (bXor .i64 t91 t92) t93))) + (bXor .i64 t94 t95))) + t98)) + (at_ x35 x82))) 4294967296))) 4294967296), (at_ x84 4), (at_ x84 5), (at_ x84 6)], I, H, ⟨by kernel_rfl, by kernel_rfl, by kernel_rfl, by kernel_rfl, by kernel_rfl, trivial⟩, rfl, hs.pk (.c d1 (.c d1 (.c d1 (.c d0 .n))))⟩
    ·refine st 2 [false] ?_
     refine k_out rfl ?_
     obtain rfl := Option.some.inj H
     exact xE ⟨x84, I, rfl, ⟨by kernel_rfl, by kernel_rfl, by kernel_rfl, trivial⟩, hl83, hs.pk (.c d1 (.c d1 (.c d1 .n)))⟩
  ·rintro ρ h ⟨x87, I, rfl, hf, hl86, hs⟩
   have H := HR88
   try dsimp only at H
   refine k_fits _ hf ?_ rfl
   refine st 6 [] ?_
   obtain ⟨s108, m112, HR111⟩ := bind_some H
   refine k_loop 4 (fun k' ρ h => ∃ (x105 : Int) (x107 : List Int) (I : Gh), shutterref01_Block.l3.m K x0 k' x105 x107 = some s108 ∧ Fits [(2, .pointer (some ⟨b26, 0, none⟩)), (4, .pointer (some ⟨b27, 0, none⟩)), (11, .pointer (some ⟨b81, 0, none⟩)), (21, .int .i64 x105)] ρ ∧ List.length x107 = 8 ∧ St E [rB b26 (List.map (Value.int .i64) x0) 111, rB b27 (List.map (Value.int .i64) (List.replicate 8 (0 : Int))) 111, rB b81 (List.map (Value.int .i64) x107) 111] I h) (fun ρ h => ∃ (x110 : List Int) (I : Gh), x110 = s108 ∧ Fits [(4, .pointer (some ⟨b27, 0, none⟩)), (11, .pointer (some ⟨b81, 0, none⟩))] ρ ∧ List.length x110 = 8 ∧ St E [rB b27 (List.map (Value.int .i64) (List.replicate 8 (0 : Int))) 111, rB b81 (List.map (Value.int .i64) x110) 111] I h) K ⟨0, x87, I, m112, ⟨by kernel_rfl, by kernel_rfl, by kernel_rfl, by kernel_rfl, trivial⟩, hl86, hs.pk (.c d0 (.c d0 (.c d0 .n)))⟩ ?_ rfl ?_
   ·clear HR111 m112 H
    rintro k' ρ h ⟨x105, x107, I, H, hf, hl106, hs⟩
    cases k' with
    | zero => cases H
    | succ k =>
     rw [shutterref01_Block.l3.m] at H
     refine k_fits _ hf ?_ rfl
     refine st 4 [] (k_ite H (fun c113 H => ?_) (fun c113 H => ?_))
     ·refine st 5 [true] ?_
      obtain ⟨hs0, bk0⟩ := hs.call tk0 (.c (qL d2) (.c (qL d0) .n))
      have hs := hs0
      refine k_regD hs0 10 ?_
      obtain ⟨c114, H⟩ := guard_pos H
      refine aRun [0, 1] 9 hs.keep ?_
      refine aP 2 (elemPtr (some ⟨b81, 0, none⟩) (x105.toNat * 1)) rfl (pr_indexArr (e := 3) (kk := .i64) (n := 8) (by kernel_rfl) (by kernel_rfl) (by kernel_rfl) (by kernel_rfl) c114 c113) hs.keep ?_
      refine aL 3 rfl hs.keep ((OwnB.mk (I := No) (hs0.g d0).1 (fun x => x)).arrCell (i := x105) hl106 c114 c113) (nmL hs0 d0) ?_
      refine aRun [4] 6 hs.keep ?_
      refine aP 5 (elemPtr (some ⟨b26, 0, none⟩) (x105.toNat * 1)) rfl (pr_indexArr (e := 3) (kk := .i64) (n := 8) (by kernel_rfl) (by kernel_rfl) (by kernel_rfl) (by kernel_rfl) c114 c113) hs.keep ?_
      refine aL 6 rfl hs.keep ((OwnB.mk (I := No) (hs0.g d1).1 (fun x => x)).arrCell (i := x105) hl21 c114 c113) (nmL hs0 d1) ?_
      refine aRun [7, 8] 2 hs.keep ?_
      refine aP 9 (elemPtr (some ⟨b81, 0, none⟩) (x105.toNat * 1)) rfl (pr_indexArr (e := 3) (kk := .i64) (n := 8) (by kernel_rfl) (by kernel_rfl) (by kernel_rfl) (by kernel_rfl) c114 c113) hs.keep ?_
      replace hs := hs.pk .n
      replace hs := bk0 hs ct0 rfl
      refine aOL 10 rfl (sA (hs.f d2) (Int.tmod (w64 ((at_ x107 x105) + (at_ x0 x105))) 4294967296) hl106 c114 c113 ?_)
      intro h hs
      refine aEnd ?_
      refine st 6 [] ?_
      exact k_endL ⟨k, Nat.lt_succ_self _, (w64 (x105 + 1)), (x107.set x105.toNat (Int.tmod (w64 ((at_ x107 x105) + (at_ x0 x105))) 4294967296)), I, H, ⟨by kernel_rfl, by kernel_rfl, by kernel_rfl, by kernel_rfl, trivial⟩, (len_set hl106), hs.pk (.c d1 (.c d1 (.c d0 .n)))⟩
     ·refine st 2 [false] ?_
      refine k_out rfl ?_
      obtain rfl := Option.some.inj H
      exact xE ⟨x107, I, rfl, ⟨by kernel_rfl, by kernel_rfl, trivial⟩, hl106, hs.pk (.c d1 (.c d1 .n))⟩
   ·rintro ρ h ⟨x110, I, rfl, hf, hl109, hs⟩
    have H := HR111
    try dsimp only at H
    refine k_fits _ hf ?_ rfl
    refine st 2 [] (k_op (lG ((hs.bl d1).arrSeg hl109) ?_))
    refine k_op (sAN (l2 := x110) hs (List.length_replicate (n := 8) (a := (0 : Int))) hl109 ?_)
    intro h hs
    refine st 1 [] ?_
    refine k_retQ ?_
    obtain rfl := Option.some.inj H
    exact ⟨[.agg (List.map (Value.int .i64) x110).toArray], (.cons (.agg (by kernel_rfl) (by kernel_rfl) (by kernel_rfl) ((hs.bl d0).arrSeg hl109)) .nil), I, _, ⟨rfl, rfl, hl109⟩, hs.pk .n⟩

/-! shutter/shutterref01.Of -/
def shutterref01_Of.l1.m (K : Nat) : Nat → Int → (List Int) → Option ((List Int))
  | 0, _, _ => none
  | k + 1, x27, x29 => (if x27 < 8 then ((shutterref01_Word.m K (⟨#[54, 97, 48, 57, 101, 54, 54, 55, 98, 98, 54, 55, 97, 101, 56, 53, 51, 99, 54, 101, 102, 51, 55, 50, 97, 53, 52, 102, 102, 53, 51, 97, 53, 49, 48, 101, 53, 50, 55, 102, 57, 98, 48, 53, 54, 56, 56, 99, 49, 102, 56, 51, 100, 57, 97, 98, 53, 98, 101, 48, 99, 100, 49, 57]⟩ : ByteArray) x27).bind fun t36 => (if 0 ≤ x27 then (shutterref01_Of.l1.m K k (w64 (x27 + 1)) (x29.set x27.toNat t36)) else none)) else (some (x29)))
def shutterref01_Of.l2.m (K : Nat) (t38 : (List Int)) : Nat → Int → (List Int) → Option ((List Int))
  | 0, _, _ => none
  | k + 1, x43, x45 => (if x43 < (t38.length : Int) then (if 0 ≤ x43 then (if x43 ≤ (w64 (x43 + 64)) then (if (w64 (x43 + 64)) ≤ (t38.length : Int) then ((shutterref01_Block.m K x45 (sub t38 x43 (w64 (x43 + 64)))).bind fun t55 => (shutterref01_Of.l2.m K t38 k (w64 (x43 + 64)) t55)) else none) else none) else none) else (some (x45)))
def shutterref01_Of.l3.m (K : Nat) (x48 : List Int) : Nat → Int → (List Int) → Option ((List Int))
  | 0, _, _ => none
  | k + 1, x58, x60 => (if x58 < 32 then (if 0 ≤ (w64 (Int.tdiv x58 4)) then (if (w64 (Int.tdiv x58 4)) < 8 then (if 0 ≤ (IntKind.u64.wrap ((w64 (24 - (w64 (8 * (Int.tmod x58 4))))))) then (if 0 ≤ x58 then (shutterref01_Of.l3.m K x48 k (w64 (x58 + 1)) (x60.set x58.toNat (IntKind.u8.wrap ((bAnd .i64 (shr .i64 (at_ x48 (w64 (Int.tdiv x58 4))) (IntKind.u64.wrap ((w64 (24 - (w64 (8 * (Int.tmod x58 4)))))))) 255))))) else none) else none) else none) else none) else (some (x60)))
def shutterref01_Of.m (K : Nat) (x0 : (List Int)) : Option (List Int) :=
  ((shutterref01_Of.l1.m K K 0 (List.replicate 8 (0 : Int))).bind fun x32 => ((shutterref01_Fill.m K x0).bind fun t38 => ((shutterref01_Of.l2.m K t38 K 0 x32).bind fun x48 => ((shutterref01_Of.l3.m K x48 K 0 (List.replicate 32 (0 : Int))).bind fun x63 => (some x63)))))

theorem shutterref01_Of.calls {B I : Gh} {h : Heap} {K : Nat} {x0 : (List Int)} {a21 : Option Addr} {p22 : Nat} {n23 : Nat} {r : (List Int)} (H : shutterref01_Of.m K x0 = some r)  :
    Fc Tryd.prog 51 #[.slice a21 n23 p22] [rR (tInt .u8) .b a21 p22 n23 x0] B I h (fun v L => v = .agg (List.map (Value.int .u8) r).toArray ∧ L = [] ∧ List.length r = 32) := by
 refine fc_of fun E hs => ?_
 unfold shutterref01_Of.m at H
 obtain rfl := hs.nR d0
 refine fn_of2 (args := [.slice a21 x0.length p22]) (rs := [.cell 2 66]) (N := 51) Tryd.func51 rfl rfl rfl rfl ?_
 refine st 2 [] (k_op (nA hs (List.map (Value.int .u8) (List.replicate 32 (0 : Int))) (.agg (List.map (Value.int .u8) (List.replicate 32 (0 : Int))).toArray) ?_))
 intro b25 h hs
 refine st 3 [] (k_op (nA hs (List.map (Value.int .i64) (List.replicate 8 (0 : Int))) (.agg (List.map (Value.int .i64) (List.replicate 8 (0 : Int))).toArray) ?_))
 intro b26 h hs
 refine st 7 [] ?_
 obtain ⟨s30, m34, HR33⟩ := bind_some H
 refine k_loop 0 (fun k' ρ h => ∃ (x27 : Int) (x29 : List Int) (I : Gh), shutterref01_Of.l1.m K k' x27 x29 = some s30 ∧ Fits [(0, .slice a21 x0.length p22), (2, .pointer (some ⟨b25, 0, none⟩)), (3, .pointer (some ⟨b26, 0, none⟩)), (4, .int .i64 x27)] ρ ∧ List.length x29 = 8 ∧ St E [rR (tInt .u8) .b a21 p22 x0.length x0, rB b25 (List.map (Value.int .u8) (List.replicate 32 (0 : Int))) 66, rB b26 (List.map (Value.int .i64) x29) 111] I h) (fun ρ h => ∃ (x32 : List Int) (I : Gh), x32 = s30 ∧ Fits [(0, .slice a21 x0.length p22), (2, .pointer (some ⟨b25, 0, none⟩)), (3, .pointer (some ⟨b26, 0, none⟩))] ρ ∧ List.length x32 = 8 ∧ St E [rR (tInt .u8) .b a21 p22 x0.length x0, rB b25 (List.map (Value.int .u8) (List.replicate 32 (0 : Int))) 66, rB b26 (List.map (Value.int .i64) x32) 111] I h) K ⟨0, (List.replicate 8 (0 : Int)), I, m34, ⟨by kernel_rfl, by kernel_rfl, by kernel_rfl, by kernel_rfl, trivial⟩, (List.length_replicate (n := 8) (a := (0 : Int))), hs.pk (.c d2 (.c d1 (.c d0 .n)))⟩ ?_ rfl ?_
 ·clear HR33 m34 H
  rintro k' ρ h ⟨x27, x29, I, H, hf, hl28, hs⟩
  cases k' with
  | zero => cases H
  | succ k =>
   rw [shutterref01_Of.l1.m] at H
   refine k_fits _ hf ?_ rfl
   refine st 4 [] (k_ite H (fun c35 H => ?_) (fun c35 H => ?_))
   ·refine st 8 [true] (k_call H (fun _ m => shutterref01_Word.calls m) ?_)
    rintro t36 _ _ H ⟨rfl, rfl⟩
    obtain ⟨c37, H⟩ := guard_pos H
    refine k_val (elemPtr (some ⟨b26, 0, none⟩) (x27.toNat * 1)) (pr_indexArr (e := 3) (kk := .i64) (n := 8) (by kernel_rfl) (by kernel_rfl) (by kernel_rfl) (by kernel_rfl) c37 c35) ?_
    refine k_op (sA (hs.f d2) t36 hl28 c37 c35 ?_)
    intro h hs
    refine st 7 [] ?_
    exact k_endL ⟨k, Nat.lt_succ_self _, (w64 (x27 + 1)), (x29.set x27.toNat t36), I, H, ⟨by kernel_rfl, by kernel_rfl, by kernel_rfl, by kernel_rfl, trivial⟩, (len_set hl28), hs.pk (.c d1 (.c d1 (.c d0 .n)))⟩
   ·refine st 2 [false] ?_
    refine k_out rfl ?_
    obtain rfl := Option.some.inj H
    exact xE ⟨x29, I, rfl, ⟨by kernel_rfl, by kernel_rfl, by kernel_rfl, trivial⟩, hl28, hs.pk (.c d0 (.c d0 (.c d0 .n)))⟩
 ·rintro ρ h ⟨x32, I, rfl, hf, hl31, hs⟩
  have H := HR33
  try dsimp only at H
  refine k_fits _ hf ?_ rfl
  obtain ⟨hk, bk⟩ := hs.call tk0 (.c (qB d0) .n)
  refine st 3 [] (k_call H (fun _ m => shutterref01_Fill.calls m hk) ?_)
  rintro t38 _ h H ⟨I, _, ⟨a39, p40, n41, rfl, rfl⟩, hk⟩
  replace hs := bk hk ct1 rfl
  obtain rfl := hs.nO d0
  refine st 8 [] ?_
  obtain ⟨s46, m50, HR49⟩ := bind_some H
  refine k_loop 2 (fun k' ρ h => ∃ (x43 : Int) (x45 : List Int) (I : Gh), shutterref01_Of.l2.m K t38 k' x43 x45 = some s46 ∧ Fits [(2, .pointer (some ⟨b25, 0, none⟩)), (3, .pointer (some ⟨b26, 0, none⟩)), (5, .slice a39 t38.length p40), (6, .int .i64 x43)] ρ ∧ List.length x45 = 8 ∧ St E [rO (tInt .u8) .i a39 p40 t38.length t38, rB b25 (List.map (Value.int .u8) (List.replicate 32 (0 : Int))) 66, rB b26 (List.map (Value.int .i64) x45) 111] I h) (fun ρ h => ∃ (x48 : List Int) (I : Gh), x48 = s46 ∧ Fits [(2, .pointer (some ⟨b25, 0, none⟩)), (3, .pointer (some ⟨b26, 0, none⟩))] ρ ∧ List.length x48 = 8 ∧ St E [rB b25 (List.map (Value.int .u8) (List.replicate 32 (0 : Int))) 66, rB b26 (List.map (Value.int .i64) x48) 111] I h) K ⟨0, x32, I, m50, ⟨by kernel_rfl, by kernel_rfl, by kernel_rfl, by kernel_rfl, trivial⟩, hl31, hs.pk (.c d0 (.c d1 (.c d1 .n)))⟩ ?_ rfl ?_
  ·clear HR49 m50 H
   rintro k' ρ h ⟨x43, x45, I, H, hf, hl44, hs⟩
   cases k' with
   | zero => cases H
   | succ k =>
    rw [shutterref01_Of.l2.m] at H
    refine k_fits _ hf ?_ rfl
    refine st 6 [] (k_ite H (fun c51 H => ?_) (fun c51 H => ?_))
    ·refine st 5 [true] ?_
     obtain ⟨hs0, bk0⟩ := hs.call tk0 (.c (qL d2) (.c (qO d0) .n))
     have hs := hs0
     refine k_regD hs0 7 ?_
     refine aG 0 rfl hs.keep (by have q := (hs0.g d0).1; exact (OwnB.arrSeg (I := No) ⟨q, fun x => x⟩ hl44)) (nmL hs0 d0) ?_
     obtain ⟨c52, H⟩ := guard_pos H
     obtain ⟨c53, H⟩ := guard_pos H
     obtain ⟨c54, H⟩ := guard_pos H
     refine aRun [1, 2, 3, 4] 3 hs.keep ?_
     refine aP 5 (.slice (slA a39 p40 (Int.toNat x43) 1) ((sub t38 x43 (w64 (x43 + 64))).length) (p40 - Int.toNat x43)) rfl (pS (e := 5) (k1 := .i64) (k2 := .i64) (hs.sR d1) c52 c53 c54) hs.keep ?_
     obtain ⟨hk, bk⟩ := hs.call tk0 (.c (qP (qB d1) (lo := x43) (hi := (w64 (x43 + 64))) c52 c53 c54) .n)
     refine aO1 6 rfl (o_call H (fun _ m => shutterref01_Block.calls m hl44 hk) ?_)
     rintro t55 _ h H ⟨I, _, ⟨rfl, rfl, hl56⟩, hk⟩
     replace hs := bk hk ct0 rfl
     refine ⟨hs.keep, ?_⟩
     replace hs := hs.pk .n
     replace hs := bk0 hs ct0 rfl
     refine aOL 7 rfl (sAN (l2 := t55) (hs.f d2) hl44 hl56 ?_)
     intro h hs
     refine aEnd ?_
     refine st 6 [] ?_
     exact k_endL ⟨k, Nat.lt_succ_self _, (w64 (x43 + 64)), t55, I, H, ⟨by kernel_rfl, by kernel_rfl, by kernel_rfl, by kernel_rfl, trivial⟩, hl56, hs.pk (.c d1 (.c d1 (.c d0 .n)))⟩
    ·refine st 2 [false] ?_
     refine k_out rfl ?_
     obtain rfl := Option.some.inj H
     exact xE ⟨x45, I, rfl, ⟨by kernel_rfl, by kernel_rfl, trivial⟩, hl44, hs.pk (.c d1 (.c d1 .n))⟩
  ·rintro ρ h ⟨x48, I, rfl, hf, hl47, hs⟩
   have H := HR49
   try dsimp only at H
   refine k_fits _ hf ?_ rfl
   refine st 2 [] (k_op (nA hs (List.map (Value.int .u8) (List.replicate 32 (0 : Int))) (.agg (List.map (Value.int .u8) (List.replicate 32 (0 : Int))).toArray) ?_))
   intro b57 h hs
   refine st 7 [] ?_
   obtain ⟨s61, m65, HR64⟩ := bind_some H
   refine k_loop 4 (fun k' ρ h => ∃ (x58 : Int) (x60 : List Int) (I : Gh), shutterref01_Of.l3.m K x48 k' x58 x60 = some s61 ∧ Fits [(2, .pointer (some ⟨b25, 0, none⟩)), (3, .pointer (some ⟨b26, 0, none⟩)), (7, .pointer (some ⟨b57, 0, none⟩)), (8, .int .i64 x58)] ρ ∧ List.length x60 = 32 ∧ St E [rB b25 (List.map (Value.int .u8) (List.replicate 32 (0 : Int))) 66, rB b26 (List.map (Value.int .i64) x48) 111, rB b57 (List.map (Value.int .u8) x60) 66] I h) (fun ρ h => ∃ (x63 : List Int) (I : Gh), x63 = s61 ∧ Fits [(2, .pointer (some ⟨b25, 0, none⟩)), (7, .pointer (some ⟨b57, 0, none⟩))] ρ ∧ List.length x63 = 32 ∧ St E [rB b25 (List.map (Value.int .u8) (List.replicate 32 (0 : Int))) 66, rB b57 (List.map (Value.int .u8) x63) 66] I h) K ⟨0, (List.replicate 32 (0 : Int)), I, m65, ⟨by kernel_rfl, by kernel_rfl, by kernel_rfl, by kernel_rfl, trivial⟩, (List.length_replicate (n := 32) (a := (0 : Int))), hs.pk (.c d1 (.c d1 (.c d0 .n)))⟩ ?_ rfl ?_
   ·clear HR64 m65 H
    rintro k' ρ h ⟨x58, x60, I, H, hf, hl59, hs⟩
    cases k' with
    | zero => cases H
    | succ k =>
     rw [shutterref01_Of.l3.m] at H
     refine k_fits _ hf ?_ rfl
     refine st 4 [] (k_ite H (fun c66 H => ?_) (fun c66 H => ?_))
     ·obtain ⟨c67, H⟩ := guard_pos H
      obtain ⟨c68, H⟩ := guard_pos H
      refine st 9 [true] (k_val (elemPtr (some ⟨b26, 0, none⟩) ((w64 (Int.tdiv x58 4)).toNat * 1)) (pr_indexArr (e := 3) (kk := .i64) (n := 8) (by kernel_rfl) (by kernel_rfl) (by kernel_rfl) (by kernel_rfl) c67 c68) ?_)
      refine k_op (lC (((hs.bl d1)).arrCell (i := (w64 (Int.tdiv x58 4))) hl47 c67 c68) ?_)
      obtain ⟨c69, H⟩ := guard_pos H
      refine st 5 [] (k_val (.int .i64 (shr .i64 (at_ x48 (w64 (Int.tdiv x58 4))) (IntKind.u64.wrap ((w64 (24 - (w64 (8 * (Int.tmod x58 4))))))))) (pr_shr (k := .i64) (yk := .u64) (a := (at_ x48 (w64 (Int.tdiv x58 4)))) (b := (IntKind.u64.wrap ((w64 (24 - (w64 (8 * (Int.tmod x58 4)))))))) (by kernel_rfl) (by kernel_rfl) c69) ?_)
      obtain ⟨c70, H⟩ := guard_pos H
      refine st 2 [] (k_val (elemPtr (some ⟨b57, 0, none⟩) (x58.toNat * 1)) (pr_indexArr (e := 5) (kk := .i64) (n := 32) (by kernel_rfl) (by kernel_rfl) (by kernel_rfl) (by kernel_rfl) c70 c66) ?_)
      refine k_op (sA (hs.f d2) (IntKind.u8.wrap ((bAnd .i64 (shr .i64 (at_ x48 (w64 (Int.tdiv x58 4))) (IntKind.u64.wrap ((w64 (24 - (w64 (8 * (Int.tmod x58 4)))))))) 255))) hl59 c70 c66 ?_)
      intro h hs
      refine st 7 [] ?_
      exact k_endL ⟨k, Nat.lt_succ_self _, (w64 (x58 + 1)), (x60.set x58.toNat (IntKind.u8.wrap ((bAnd .i64 (shr .i64 (at_ x48 (w64 (Int.tdiv x58 4))) (IntKind.u64.wrap ((w64 (24 - (w64 (8 * (Int.tmod x58 4)))))))) 255)))), I, H, ⟨by kernel_rfl, by kernel_rfl, by kernel_rfl, by kernel_rfl, trivial⟩, (len_set hl59), hs.pk (.c d1 (.c d1 (.c d0 .n)))⟩
     ·refine st 2 [false] ?_
      refine k_out rfl ?_
      obtain rfl := Option.some.inj H
      exact xE ⟨x60, I, rfl, ⟨by kernel_rfl, by kernel_rfl, trivial⟩, hl59, hs.pk (.c d0 (.c d1 .n))⟩
   ·rintro ρ h ⟨x63, I, rfl, hf, hl62, hs⟩
    have H := HR64
    try dsimp only at H
    refine k_fits _ hf ?_ rfl
    refine st 2 [] (k_op (lG ((hs.bl d1).arrSeg hl62) ?_))
    refine k_op (sAN (l2 := x63) hs (List.length_replicate (n := 32) (a := (0 : Int))) hl62 ?_)
    intro h hs
    refine st 1 [] ?_
    refine k_retQ ?_
    obtain rfl := Option.some.inj H
    exact ⟨[.agg (List.map (Value.int .u8) x63).toArray], (.cons (.agg (by kernel_rfl) (by kernel_rfl) (by kernel_rfl) ((hs.bl d0).arrSeg hl62)) .nil), I, _, ⟨rfl, rfl, hl62⟩, hs.pk .n⟩

/-! shutter/shutterref02.Code -/
def shutterref02_Code.l1.m (K : Nat) : Nat → (List Int) → Option ((List Int))
  | 0, _ => none
  | k + 1, x58 => (if (x58.length : Int) < 64 then ((app x58 [0]).bind fun l74 => (shutterref02_Code.l1.m K k l74)) else (some (x58)))
def shutterref02_Code.l2.m (K : Nat) (x64 : List Int) : Nat → (List Int) → (List Int) → Int → Option ((List Int) × (List Int))
  | 0, _, _, _ => none
  | k + 1, x79, x84, x89 => (if x89 < 64 then (if 0 ≤ x89 then (if x89 < (x64.length : Int) then ((app x79 [(bXor .u8 (at_ x64 x89) 54)]).bind fun l108 => ((app x84 [(bXor .u8 (at_ x64 x89) 92)]).bind fun l115 => (shutterref02_Code.l2.m K x64 k l108 l115 (w64 (x89 + 1))))) else none) else none) else (some ((x79, x84))))
def shutterref02_Code.m (K : Nat) (x0 : (List Int)) (x1 : (List Int)) : Option (List Int) :=
  ((app [] x0).bind fun l32 => (letJ (α := (List Int) → Option (List Int)) (fun (x52 : List Int) => ((shutterref02_Code.l1.m K K x52).bind fun x64 => ((shutterref02_Code.l2.m K x64 K [] [] 0).bind fun (x91, x96) => ((app x91 x1).bind fun l120 => ((shutterref01_Of.m K l120).bind fun t125 => ((app x96 t125).bind fun l129 => ((shutterref01_Of.m K l129).bind fun t134 => (some t134)))))))) fun (j57 : (List Int) → Option (List Int)) => (letJ (α := Bool → Option (List Int)) (fun (x38 : Bool) => (bif x38 then ((shutterref01_Of.m K x0).bind fun t40 => ((app [] t40).bind fun l46 => (j57 l46))) else (j57 l32))) fun (j39 : Bool → Option (List Int)) => (if (x0.length : Int) > 64 then (j39 true) else (j39 false)))))

theorem shutterref02_Code.calls {B I : Gh} {h : Heap} {K : Nat} {x0 : (List Int)} {x1 : (List Int)} {a21 : Option Addr} {p22 : Nat} {n23 : Nat} {a25 : Option Addr} {p26 : Nat} {n27 : Nat} {r : (List Int)} (H : shutterref02_Code.m K x0 x1 = some r)  :
    Fc Tryd.prog 40 #[.slice a21 n23 p22, .slice a25 n27 p26] [rR (tInt .u8) .b a21 p22 n23 x0, rR (tInt .u8) .b a25 p26 n27 x1] B I h (fun v L => v = .agg (List.map (Value.int .u8) r).toArray ∧ L = [] ∧ List.length r = 32) := by
 refine fc_of fun E hs => ?_
 unfold shutterref02_Code.m at H
 obtain rfl := hs.nR d0
 obtain rfl := hs.nR d1
 refine fn_of2 (args := [.slice a21 x0.length p22, .slice a25 x1.length p26]) (rs := [.cell 4 66]) (N := 56) Tryd.func40 rfl rfl rfl rfl ?_
 refine st 2 [] (k_op (nA hs (List.map (Value.int .u8) (List.replicate 32 (0 : Int))) (.agg (List.map (Value.int .u8) (List.replicate 32 (0 : Int))).toArray) ?_))
 intro b29 h hs
 refine st 3 [] (k_op (nS (e := 5) hs .i (tInt .u8) ([] : List Int) [] 1 (.int .u8 0) (Reps.int (I := (Cl.G .i E.B I)) (k := .u8) (l := [])) ?_))
 intro b30 h hs
 obtain ⟨l32, m33, H⟩ := bind_some H
 refine st 1 [] (k_op (aO (e := 5) (bytes := 1) hs ((hs.sR d2).flat flat_int) m33 ?_))
 intro a34 p35 h hs
 refine st 3 [] ?_
 obtain ⟨j57, e136, H⟩ := letJ_some H
 refine k_join (fun ρ h => ∃ (x52 : List Int) (a53 : Option Addr) (p54 : Nat) (n55 : Nat) (I : Gh), j57 x52 = some r ∧ Fits [(1, .slice a25 x1.length p26), (4, .pointer (some ⟨b29, 0, none⟩)), (5, .slice a53 n55 p54)] ρ ∧ St E [rR (tInt .u8) .b a25 p26 x1.length x1, rO (tInt .u8) .i a53 p54 n55 x52, rB b29 (List.map (Value.int .u8) (List.replicate 32 (0 : Int))) 66] I h) ?_ ?_
 ·refine st 1 [] ?_
  obtain ⟨j39, e51, H⟩ := letJ_some H
  refine k_join (fun ρ h => ∃ (x38 : Bool) (I : Gh), j39 x38 = some r ∧ Fits [(0, .slice a21 x0.length p22), (1, .slice a25 x1.length p26), (4, .pointer (some ⟨b29, 0, none⟩)), (5, .slice a34 l32.length p35), (16, .bool x38)] ρ ∧ St E [rR (tInt .u8) .b a21 p22 x0.length x0, rR (tInt .u8) .b a25 p26 x1.length x1, rO (tInt .u8) .i a34 p35 l32.length l32, rB b29 (List.map (Value.int .u8) (List.replicate 32 (0 : Int))) 66] I h) ?_ ?_
  ·refine st 3 [] (k_ite H (fun c37 H => ?_) (fun c37 H => ?_))
   ·refine st 1 [] ?_
    exact k_end ⟨true, I, H, ⟨by kernel_rfl, by kernel_rfl, by kernel_rfl, by kernel_rfl, by kernel_rfl, trivial⟩, hs.pk (.c d2 (.c d2 (.c d0 (.c d0 .n))))⟩
   ·refine st 1 [] ?_
    exact k_end ⟨false, I, H, ⟨by kernel_rfl, by kernel_rfl, by kernel_rfl, by kernel_rfl, by kernel_rfl, trivial⟩, hs.pk (.c d2 (.c d2 (.c d0 (.c d0 .n))))⟩
  ·clear H
   rintro ρ h ⟨x38, I, H, hf, hs⟩
   refine k_fits _ hf ?_ rfl
   subst e51
   try dsimp only at H
   cases x38
   ·rw [cond_false] at H
    refine st 2 [false] ?_
    exact k_end ⟨l32, a34, p35, l32.length, I, H, ⟨by kernel_rfl, by kernel_rfl, by kernel_rfl, trivial⟩, hs.pk (.c d1 (.c d1 (.c d1 .n)))⟩
   ·rw [cond_true] at H
    obtain ⟨hk, bk⟩ := hs.call tk0 (.c (qB d0) .n)
    refine st 4 [true] (k_call H (fun _ m => shutterref01_Of.calls m hk) ?_)
    rintro t40 _ h H ⟨I, _, ⟨rfl, rfl, hl41⟩, hk⟩
    replace hs := bk hk ct0 rfl
    refine k_op (nA hs (List.map (Value.int .u8) (List.replicate 32 (0 : Int))) (.agg (List.map (Value.int .u8) (List.replicate 32 (0 : Int))).toArray) ?_)
    intro b42 h hs
    refine k_op (sAN (l2 := t40) hs (List.length_replicate (n := 32) (a := (0 : Int))) hl41 ?_)
    intro h hs
    refine st 2 [] (k_op (nS (e := 5) hs .i (tInt .u8) ([] : List Int) [] 1 (.int .u8 0) (Reps.int (I := (Cl.G .i E.B I)) (k := .u8) (l := [])) ?_))
    intro b43 h hs
    obtain ⟨I, hs⟩ := (hs.f d1).fA hl41
    replace hs := (hs.f d1)
    obtain ⟨l46, m47, H⟩ := bind_some H
    refine st 1 [] (k_op (aO (e := 5) (bytes := 1) hs (hs.sR d1) m47 ?_))
    intro a48 p49 h hs
    refine st 2 [] ?_
    exact k_end ⟨l46, a48, p49, l46.length, I, H, ⟨by kernel_rfl, by kernel_rfl, by kernel_rfl, trivial⟩, hs.pk (.c d3 (.c d0 (.c d3 .n)))⟩
 ·clear H
  rintro ρ h ⟨x52, a53, p54, n55, I, H, hf, hs⟩
  refine k_fits _ hf ?_ rfl
  subst e136
  try dsimp only at H
  obtain rfl := hs.nO d1
  refine st 2 [] ?_
  obtain ⟨s63, m70, HR69⟩ := bind_some H
  refine k_loop 0 (fun k' ρ h => ∃ (x58 : List Int) (a59 : Option Addr) (p60 : Nat) (n61 : Nat) (I : Gh), shutterref02_Code.l1.m K k' x58 = some s63 ∧ Fits [(1, .slice a25 x1.length p26), (4, .pointer (some ⟨b29, 0, none⟩)), (5, .slice a59 n61 p60)] ρ ∧ St E [rR (tInt .u8) .b a25 p26 x1.length x1, rO (tInt .u8) .i a59 p60 n61 x58, rB b29 (List.map (Value.int .u8) (List.replicate 32 (0 : Int))) 66] I h) (fun ρ h => ∃ (x64 : List Int) (a65 : Option Addr) (p66 : Nat) (n67 : Nat) (I : Gh), x64 = s63 ∧ Fits [(1, .slice a25 x1.length p26), (4, .pointer (some ⟨b29, 0, none⟩)), (5, .slice a65 n67 p66)] ρ ∧ St E [rR (tInt .u8) .b a25 p26 x1.length x1, rO (tInt .u8) .i a65 p66 n67 x64, rB b29 (List.map (Value.int .u8) (List.replicate 32 (0 : Int))) 66] I h) K ⟨x52, a53, p54, x52.length, I, m70, ⟨by kernel_rfl, by kernel_rfl, by kernel_rfl, trivial⟩, hs.pk (.c d0 (.c d0 (.c d0 .n)))⟩ ?_ rfl ?_
  ·clear HR69 m70 H
   rintro k' ρ h ⟨x58, a59, p60, n61, I, H, hf, hs⟩
   cases k' with
   | zero => cases H
   | succ k =>
    rw [shutterref02_Code.l1.m] at H
    refine k_fits _ hf ?_ rfl
    obtain rfl := hs.nO d1
    refine st 5 [] (k_ite H (fun c71 H => ?_) (fun c71 H => ?_))
    ·refine st 6 [true] (k_op (nS (e := 5) hs .i (tInt .u8) ([0] : List Int) [.int .u8 0] 1 (.int .u8 0) (Reps.int (I := (Cl.G .i E.B I)) (k := .u8) (l := [0])) ?_))
     intro b72 h hs
     replace hs := (hs.f d2)
     obtain ⟨l74, m75, H⟩ := bind_some H
     refine k_op (aO (e := 5) (bytes := 1) hs (hs.sO d1) m75 ?_)
     intro a76 p77 h hs
     refine st 3 [] ?_
     exact k_endL ⟨k, Nat.lt_succ_self _, l74, a76, p77, l74.length, I, H, ⟨by kernel_rfl, by kernel_rfl, by kernel_rfl, trivial⟩, hs.pk (.c d2 (.c d0 (.c d1 .n)))⟩
    ·refine st 2 [false] ?_
     refine k_out rfl ?_
     obtain rfl := Option.some.inj H
     exact xE ⟨x58, a59, p60, x58.length, I, rfl, ⟨by kernel_rfl, by kernel_rfl, by kernel_rfl, trivial⟩, hs.pk (.c d0 (.c d0 (.c d0 .n)))⟩
  ·rintro ρ h ⟨x64, a65, p66, n67, I, rfl, hf, hs⟩
   have H := HR69
   try dsimp only at H
   refine k_fits _ hf ?_ rfl
   obtain rfl := hs.nO d1
   refine st 14 [] ?_
   obtain ⟨s90, m102, HR101⟩ := bind_some H
   refine k_loop 2 (fun k' ρ h => ∃ (x79 : List Int) (x84 : List Int) (x89 : Int) (a80 : Option Addr) (p81 : Nat) (n82 : Nat) (a85 : Option Addr) (p86 : Nat) (n87 : Nat) (I : Gh), shutterref02_Code.l2.m K x64 k' x79 x84 x89 = some s90 ∧ Fits [(1, .slice a25 x1.length p26), (4, .pointer (some ⟨b29, 0, none⟩)), (5, .slice a65 x64.length p66), (7, .slice a80 n82 p81), (8, .slice a85 n87 p86), (9, .int .i64 x89)] ρ ∧ St E [rR (tInt .u8) .b a25 p26 x1.length x1, rO (tInt .u8) .i a65 p66 x64.length x64, rO (tInt .u8) .i a80 p81 n82 x79, rO (tInt .u8) .i a85 p86 n87 x84, rB b29 (List.map (Value.int .u8) (List.replicate 32 (0 : Int))) 66] I h) (fun ρ h => ∃ (x91 : List Int) (x96 : List Int) (a92 : Option Addr) (p93 : Nat) (n94 : Nat) (a97 : Option Addr) (p98 : Nat) (n99 : Nat) (I : Gh), (x91, x96) = s90 ∧ Fits [(1, .slice a25 x1.length p26), (4, .pointer (some ⟨b29, 0, none⟩)), (7, .slice a92 n94 p93), (8, .slice a97 n99 p98)] ρ ∧ St E [rR (tInt .u8) .b a25 p26 x1.length x1, rO (tInt .u8) .i a92 p93 n94 x91, rO (tInt .u8) .i a97 p98 n99 x96, rB b29 (List.map (Value.int .u8) (List.replicate 32 (0 : Int))) 66] I h) K ⟨[], [], 0, none, 0, 0, none, 0, 0, I, m102, ⟨by kernel_rfl, by kernel_rfl, by kernel_rfl, by kernel_rfl, by kernel_rfl, by kernel_rfl, trivial⟩, hs.pk (.c d0 (.c d0 (.f imON (.f imON (.c d0 .n)))))⟩ ?_ rfl ?_
   ·clear HR101 m102 H
    rintro k' ρ h ⟨x79, x84, x89, a80, p81, n82, a85, p86, n87, I, H, hf, hs⟩
    cases k' with
    | zero => cases H
    | succ k =>
     rw [shutterref02_Code.l2.m] at H
     refine k_fits _ hf ?_ rfl
     obtain rfl := hs.nO d2
     obtain rfl := hs.nO d3
     refine st 4 [] (k_ite H (fun c103 H => ?_) (fun c103 H => ?_))
     ·obtain ⟨c104, H⟩ := guard_pos H
      obtain ⟨c105, H⟩ := guard_pos H
      refine st 10 [true] (k_val (elemPtr a65 (x89.toNat * 1)) (pI (e := 5) (ik := .i64) (hs.sO d1) c104 c105) ?_)
      refine k_op (lC ((hs.sO d1).cell1 c104 c105) ?_)
      refine st 1 [] (k_op (nS (e := 5) hs .i (tInt .u8) ([(bXor .u8 (at_ x64 x89) 54)] : List Int) [.int .u8 (bXor .u8 (at_ x64 x89) 54)] 1 (.int .u8 0) (Reps.int (I := (Cl.G .i E.B I)) (k := .u8) (l := [(bXor .u8 (at_ x64 x89) 54)])) ?_))
      intro b106 h hs
      replace hs := (hs.f d3)
      obtain ⟨l108, m109, H⟩ := bind_some H
      refine k_op (aO (e := 5) (bytes := 1) hs (hs.sO d1) m109 ?_)
      intro a110 p111 h hs
      refine st 6 [] (k_val (elemPtr a65 (x89.toNat * 1)) (pI (e := 5) (ik := .i64) (hs.sO d3) c104 c105) ?_)
      refine k_op (lC ((hs.sO d3).cell1 c104 c105) ?_)
      refine st 1 [] (k_op (nS (e := 5) hs .i (tInt .u8) ([(bXor .u8 (at_ x64 x89) 92)] : List Int) [.int .u8 (bXor .u8 (at_ x64 x89) 92)] 1 (.int .u8 0) (Reps.int (I := (Cl.G .i E.B I)) (k := .u8) (l := [(bXor .u8 (at_ x64 x89) 92)])) ?_))
      intro b113 h hs
      replace hs := (hs.f d5)
      obtain ⟨l115, m116, H⟩ := bind_some H
      refine k_op (aO (e := 5) (bytes := 1) hs (hs.sO d1) m116 ?_)
      intro a117 p118 h hs
      refine st 8 [] ?_
      exact k_endL ⟨k, Nat.lt_succ_self _, l108, l115, (w64 (x89 + 1)), a110, p111, l108.length, a117, p118, l115.length, I, H, ⟨by kernel_rfl, by kernel_rfl, by kernel_rfl, by kernel_rfl, by kernel_rfl, by kernel_rfl, trivial⟩, hs.pk (.c d4 (.c d4 (.c d2 (.c d0 (.c d2 .n)))))⟩
     ·refine st 2 [false] ?_
      refine k_out rfl ?_
      obtain rfl := Option.some.inj H
      exact xE ⟨x79, x84, a80, p81, x79.length, a85, p86, x84.length, I, rfl, ⟨by kernel_rfl, by kernel_rfl, by kernel_rfl, by kernel_rfl, trivial⟩, hs.pk (.c d0 (.c d1 (.c d1 (.c d1 .n))))⟩
   ·rintro ρ h ⟨x91, x96, a92, p93, n94, a97, p98, n99, I, rfl, hf, hs⟩
    have H := HR101
    try dsimp only at H
    refine k_fits _ hf ?_ rfl
    obtain rfl := hs.nO d1
    obtain rfl := hs.nO d2
    replace hs := (hs.f d1)
    obtain ⟨l120, m121, H⟩ := bind_some H
    refine st 4 [] (k_op (aO (e := 5) (bytes := 1) hs ((hs.sR d1).flat flat_int) m121 ?_))
    intro a122 p123 h hs
    obtain ⟨hk, bk⟩ := hs.call tk0 (.c (qO d0) .n)
    refine k_call H (fun _ m => shutterref01_Of.calls m hk) ?_
    rintro t125 _ h H ⟨I, _, ⟨rfl, rfl, hl126⟩, hk⟩
    replace hs := bk hk ct0 rfl
    refine k_op (nA hs (List.map (Value.int .u8) (List.replicate 32 (0 : Int))) (.agg (List.map (Value.int .u8) (List.replicate 32 (0 : Int))).toArray) ?_)
    intro b127 h hs
    refine k_op (sAN (l2 := t125) hs (List.length_replicate (n := 32) (a := (0 : Int))) hl126 ?_)
    intro h hs
    obtain ⟨I, hs⟩ := hs.fA hl126
    replace hs := (hs.f d3)
    obtain ⟨l129, m130, H⟩ := bind_some H
    refine st 5 [] (k_op (aO (e := 5) (bytes := 1) hs (hs.sR d1) m130 ?_))
    intro a131 p132 h hs
    obtain ⟨hk, bk⟩ := hs.call tk0 (.c (qO d0) .n)
    refine k_call H (fun _ m => shutterref01_Of.calls m hk) ?_
    rintro t134 _ h H ⟨I, _, ⟨rfl, rfl, hl135⟩, hk⟩
    replace hs := bk hk ct0 rfl
    refine k_op (sAN (l2 := t134) (hs.f d4) (List.length_replicate (n := 32) (a := (0 : Int))) hl135 ?_)
    intro h hs
    refine st 1 [] ?_
    refine k_retQ ?_
    obtain rfl := Option.some.inj H
    exact ⟨[.agg (List.map (Value.int .u8) t134).toArray], (.cons (.agg (by kernel_rfl) (by kernel_rfl) (by kernel_rfl) ((hs.bl d0).arrSeg hl135)) .nil), I, _, ⟨rfl, rfl, hl135⟩, hs.pk .n⟩

/-! shutter/shutterref02.Tag -/
def shutterref02_Tag.m (K : Nat) (x0 : (List Int)) (x1 : (List Int)) : Option (List Int) :=
  ((shutterref02_Code.m K x0 x1).bind fun t29 => ((app [] (sub t29 0 16)).bind fun l36 => (some l36)))

theorem shutterref02_Tag.calls {B I : Gh} {h : Heap} {K : Nat} {x0 : (List Int)} {x1 : (List Int)} {a21 : Option Addr} {p22 : Nat} {n23 : Nat} {a25 : Option Addr} {p26 : Nat} {n27 : Nat} {r : (List Int)} (H : shutterref02_Tag.m K x0 x1 = some r)  :
    Fc Tryd.prog 25 #[.slice a21 n23 p22, .slice a25 n27 p26] [rR (tInt .u8) .b a21 p22 n23 x0, rR (tInt .u8) .b a25 p26 n27 x1] B I h (fun v L => ∃ (a41 : Option Addr) (p42 : Nat) (n43 : Nat), v = .slice a41 n43 p42 ∧ L = [rO (tInt .u8) .i a41 p42 n43 r]) := by
 refine fc_of fun E hs => ?_
 unfold shutterref02_Tag.m at H
 obtain rfl := hs.nR d0
 obtain rfl := hs.nR d1
 refine fn_of (args := [.slice a21 x0.length p22, .slice a25 x1.length p26]) (rs := [.tmp 4]) (N := 12) Tryd.func25 rfl rfl rfl rfl ?_
 obtain ⟨hk, bk⟩ := hs.call tk0 (.c (qB d0) (.c (qB d1) .n))
 refine st 8 [] (k_call H (fun _ m => shutterref02_Code.calls m hk) ?_)
 rintro t29 _ h H ⟨I, _, ⟨rfl, rfl, hl30⟩, hk⟩
 replace hs := bk hk ct0 rfl
 refine k_op (nA hs (List.map (Value.int .u8) (List.replicate 32 (0 : Int))) (.agg (List.map (Value.int .u8) (List.replicate 32 (0 : Int))).toArray) ?_)
 intro b31 h hs
 refine k_op (sAN (l2 := t29) hs (List.length_replicate (n := 32) (a := (0 : Int))) hl30 ?_)
 intro h hs
 refine st 3 [] (k_op (nS (e := 5) hs .i (tInt .u8) ([] : List Int) [] 1 (.int .u8 0) (Reps.int (I := (Cl.G .i E.B I)) (k := .u8) (l := [])) ?_))
 intro b32 h hs
 obtain ⟨I, hs⟩ := (hs.f d1).fA hl30
 replace hs := hs.part d0 (lo := 0) (hi := 16) (Int.le_refl 0) (by decide) (by rw [hl30]; decide)
 refine k_val (.slice (slA (some ⟨b31, 0, none⟩) 32 (Int.toNat (0 : Int)) 1) ((sub t29 0 16).length) (32 - Int.toNat (0 : Int))) (pSA (lo := 0) (hi := 16) 16 (by rw [hl30]; decide)) ?_
 replace hs := (hs.f d2)
 obtain ⟨l36, m37, H⟩ := bind_some H
 refine k_op (aO (e := 5) (bytes := 1) hs (hs.sR d1) m37 ?_)
 intro a38 p39 h hs
 refine st 2 [] ?_
 refine k_retQ ?_
 obtain rfl := Option.some.inj H
 exact ⟨_, by kernel_rfl, I, _, ⟨a38, p39, l36.length, rfl, rfl⟩, hs.pk (.c d0 .n)⟩

/-! shutter/shutterref19.Seal -/
def shutterref19_Seal.l1.m (K : Nat) (x1 : api_Frame) : Nat → (List Int) → Int → Option ((List Int))
  | 0, _, _ => none
  | k + 1, x32, x37 => (if x37 ≥ 0 then (if 0 ≤ (IntKind.u64.wrap ((w64 (8 * x37)))) then ((app x32 [(IntKind.u8.wrap ((bAnd .i64 (shr .i64 x1.Seq (IntKind.u64.wrap ((w64 (8 * x37))))) 255)))]).bind fun l50 => (shutterref19_Seal.l1.m K x1 k l50 (w64 (x37 - 1)))) else none) else (some (x32)))
def shutterref19_Seal.m (K : Nat) (x0 : (List Int)) (x1 : api_Frame) : Option (List Int) :=
  ((shutterref19_Seal.l1.m K x1 K [1, (IntKind.u8.wrap (x1.Dir))] 7).bind fun x39 => ((app x39 x1.Body).bind fun l55 => ((shutterref02_Tag.m K x0 l55).bind fun t60 => ((app l55 t60).bind fun l65 => (some l65)))))

theorem shutterref19_Seal.calls {B I : Gh} {h : Heap} {K : Nat} {x0 : (List Int)} {x1 : api_Frame} {a21 : Option Addr} {p22 : Nat} {n23 : Nat} {a25 : Option Addr} {p26 : Nat} {n27 : Nat} {r : (List Int)} (H : shutterref19_Seal.m K x0 x1 = some r)  :
    Fc Tryd.prog 14 #[.slice a21 n23 p22, .agg #[.int .i64 x1.Dir, .int .i64 x1.Seq, .slice a25 n27 p26]] [rR (tInt .u8) .b a21 p22 n23 x0, rR (tInt .u8) .b a25 p26 n27 x1.Body] B I h (fun v L => ∃ (a70 : Option Addr) (p71 : Nat) (n72 : Nat), v = .slice a70 n72 p71 ∧ L = [rO (tInt .u8) .i a70 p71 n72 r]) := by
 refine fc_of fun E hs => ?_
 unfold shutterref19_Seal.m at H
 obtain rfl := hs.nR d0
 obtain rfl := hs.nR d1
 refine fn_of (args := [.slice a21 x0.length p22, .agg #[.int .i64 x1.Dir, .int .i64 x1.Seq, .slice a25 x1.Body.length p26]]) (rs := [.tmp 4]) (N := 35) Tryd.func14 rfl rfl rfl rfl ?_
 refine st 2 [] (k_op (nB hs [.int .i64 x1.Dir, .int .i64 x1.Seq, .slice a25 x1.Body.length p26] ?_))
 intro b29 h hs
 refine st 5 [] (k_op (lB (hs.bl d0) 0 rfl ?_))
 refine st 1 [] (k_op (nS (e := 5) hs .i (tInt .u8) ([1, (IntKind.u8.wrap (x1.Dir))] : List Int) [.int .u8 1, .int .u8 (IntKind.u8.wrap (x1.Dir))] 1 (.int .u8 0) (Reps.int (I := (Cl.G .i E.B I)) (k := .u8) (l := [1, (IntKind.u8.wrap (x1.Dir))])) ?_))
 intro b30 h hs
 refine st 8 [] ?_
 obtain ⟨s38, m45, HR44⟩ := bind_some H
 refine k_loop 0 (fun k' ρ h => ∃ (x32 : List Int) (x37 : Int) (a33 : Option Addr) (p34 : Nat) (n35 : Nat) (I : Gh), shutterref19_Seal.l1.m K x1 k' x32 x37 = some s38 ∧ Fits [(0, .slice a21 x0.length p22), (3, .pointer (some ⟨b29, 0, none⟩)), (5, .slice a33 n35 p34), (6, .int .i64 x37)] ρ ∧ St E [rR (tInt .u8) .b a21 p22 x0.length x0, rO (tInt .u8) .i a33 p34 n35 x32, rR (tInt .u8) .b a25 p26 x1.Body.length x1.Body, rB b29 [.int .i64 x1.Dir, .int .i64 x1.Seq, .slice a25 x1.Body.length p26] 24] I h) (fun ρ h => ∃ (x39 : List Int) (a40 : Option Addr) (p41 : Nat) (n42 : Nat) (I : Gh), x39 = s38 ∧ Fits [(0, .slice a21 x0.length p22), (3, .pointer (some ⟨b29, 0, none⟩)), (5, .slice a40 n42 p41)] ρ ∧ St E [rR (tInt .u8) .b a21 p22 x0.length x0, rO (tInt .u8) .i a40 p41 n42 x39, rR (tInt .u8) .b a25 p26 x1.Body.length x1.Body, rB b29 [.int .i64 x1.Dir, .int .i64 x1.Seq, .slice a25 x1.Body.length p26] 24] I h) K ⟨[1, (IntKind.u8.wrap (x1.Dir))], 7, (some ⟨b30, 0, none⟩), 2, 2, I, m45, ⟨by kernel_rfl, by kernel_rfl, by kernel_rfl, by kernel_rfl, trivial⟩, hs.pk (.c d2 (.c d0 (.c d1 (.c d0 .n))))⟩ ?_ rfl ?_
 ·clear HR44 m45 H
  rintro k' ρ h ⟨x32, x37, a33, p34, n35, I, H, hf, hs⟩
  cases k' with
  | zero => cases H
  | succ k =>
   rw [shutterref19_Seal.l1.m] at H
   refine k_fits _ hf ?_ rfl
   obtain rfl := hs.nO d1
   refine st 4 [] (k_ite H (fun c46 H => ?_) (fun c46 H => ?_))
   ·refine st 8 [true] (k_op (lB (hs.bl d3) 1 rfl ?_))
    obtain ⟨c47, H⟩ := guard_pos H
    refine st 3 [] (k_val (.int .i64 (shr .i64 x1.Seq (IntKind.u64.wrap ((w64 (8 * x37)))))) (pr_shr (k := .i64) (yk := .u64) (a := x1.Seq) (b := (IntKind.u64.wrap ((w64 (8 * x37))))) (by kernel_rfl) (by kernel_rfl) c47) ?_)
    refine st 2 [] (k_op (nS (e := 5) hs .i (tInt .u8) ([(IntKind.u8.wrap ((bAnd .i64 (shr .i64 x1.Seq (IntKind.u64.wrap ((w64 (8 * x37))))) 255)))] : List Int) [.int .u8 (IntKind.u8.wrap ((bAnd .i64 (shr .i64 x1.Seq (IntKind.u64.wrap ((w64 (8 * x37))))) 255)))] 1 (.int .u8 0) (Reps.int (I := (Cl.G .i E.B I)) (k := .u8) (l := [(IntKind.u8.wrap ((bAnd .i64 (shr .i64 x1.Seq (IntKind.u64.wrap ((w64 (8 * x37))))) 255)))])) ?_))
    intro b48 h hs
    replace hs := (hs.f d2)
    obtain ⟨l50, m51, H⟩ := bind_some H
    refine k_op (aO (e := 5) (bytes := 1) hs (hs.sO d1) m51 ?_)
    intro a52 p53 h hs
    refine st 8 [] ?_
    exact k_endL ⟨k, Nat.lt_succ_self _, l50, (w64 (x37 - 1)), a52, p53, l50.length, I, H, ⟨by kernel_rfl, by kernel_rfl, by kernel_rfl, by kernel_rfl, trivial⟩, hs.pk (.c d2 (.c d0 (.c d1 (.c d1 .n))))⟩
   ·refine st 2 [false] ?_
    refine k_out rfl ?_
    obtain rfl := Option.some.inj H
    exact xE ⟨x32, a33, p34, x32.length, I, rfl, ⟨by kernel_rfl, by kernel_rfl, by kernel_rfl, trivial⟩, hs.pk (.c d0 (.c d0 (.c d0 (.c d0 .n))))⟩
 ·rintro ρ h ⟨x39, a40, p41, n42, I, rfl, hf, hs⟩
  have H := HR44
  try dsimp only at H
  refine k_fits _ hf ?_ rfl
  obtain rfl := hs.nO d1
  refine st 4 [] (k_op (lB (hs.bl d3) 2 rfl ?_))
  replace hs := (hs.f d1)
  obtain ⟨l55, m56, H⟩ := bind_some H
  refine k_op (aO (e := 5) (bytes := 1) hs ((hs.sR d2).flat flat_int) m56 ?_)
  intro a57 p58 h hs
  obtain ⟨hk, bk⟩ := hs.call tk0 (.c (qB d1) (.c (qO d0) .n))
  refine st 7 [] (k_call H (fun _ m => shutterref02_Tag.calls m hk) ?_)
  rintro t60 _ h H ⟨I, _, ⟨a61, p62, n63, rfl, rfl⟩, hk⟩
  replace hs := bk hk ct1 rfl
  obtain rfl := hs.nO d0
  replace hs := (hs.f d1)
  obtain ⟨l65, m66, H⟩ := bind_some H
  refine k_op (aO (e := 5) (bytes := 1) hs (hs.sO d1) m66 ?_)
  intro a67 p68 h hs
  refine st 2 [] ?_
  refine k_retQ ?_
  obtain rfl := Option.some.inj H
  exact ⟨_, by kernel_rfl, I, _, ⟨a67, p68, l65.length, rfl, rfl⟩, hs.pk (.c d0 .n)⟩

/-! shutter/shutterlaw19.FrameSeals -/
def shutterlaw19_FrameSeals.m (K : Nat) (x0 : (List Int)) (x1 : api_Frame) : Option Bool :=
  ((shutterlaw19_awake.m K).bind fun t30 => bif t30 then (if (x0.length : Int) > 200 then ((shutterlaw19_awake.m K).bind fun t32 => (some t32)) else (if (x1.Body.length : Int) > 1000 then ((shutterlaw19_awake.m K).bind fun t34 => (some t34)) else ((frame_Seal.m K x0 x1).bind fun t35 => ((shutterref19_Wrong.m x1).bind fun t42 => (if t42 = 0 then (if t35.2 = GoErr.nil then ((shutterref19_Seal.m K x0 x1).bind fun t47 => ((shutterref01_Same.m K t35.1 t47).bind fun t52 => (some t52))) else (some false)) else ((api_Code.m t35.2).bind fun t53 => (if t53 = t42 then (some ((t35.1.length : Int) == 0)) else (some false)))))))) else ((shutterlaw19_awake.m K).bind fun t55 => (some t55)))

theorem shutterlaw19_FrameSeals.calls {B I : Gh} {h : Heap} {K : Nat} {x0 : (List Int)} {x1 : api_Frame} {a21 : Option Addr} {p22 : Nat} {n23 : Nat} {a25 : Option Addr} {p26 : Nat} {n27 : Nat} {r : Bool} (H : shutterlaw19_FrameSeals.m K x0 x1 = some r)  :
    Fc Tryd.prog 3 #[.slice a21 n23 p22, .agg #[.int .i64 x1.Dir, .int .i64 x1.Seq, .slice a25 n27 p26]] [rR (tInt .u8) .b a21 p22 n23 x0, rR (tInt .u8) .b a25 p26 n27 x1.Body, rG] B I h (fun v L => v = .bool r ∧ L = []) := by
 refine fc_of fun E hs => ?_
 unfold shutterlaw19_FrameSeals.m at H
 obtain rfl := hs.nR d0
 obtain rfl := hs.nR d1
 refine fn_of (args := [.slice a21 x0.length p22, .agg #[.int .i64 x1.Dir, .int .i64 x1.Seq, .slice a25 x1.Body.length p26]]) (rs := [.tmp 4]) (N := 50) Tryd.func3 rfl rfl rfl rfl ?_
 refine st 2 [] (k_op (nB hs [.int .i64 x1.Dir, .int .i64 x1.Seq, .slice a25 x1.Body.length p26] ?_))
 intro b29 h hs
 obtain ⟨hk, bk⟩ := hs.call tk0 (.c (gK d3) .n)
 refine st 5 [] (k_call H (fun _ m => shutterlaw19_awake.calls m hk) ?_)
 rintro t30 _ h H ⟨I, _, ⟨rfl, rfl⟩, hk⟩
 replace hs := bk hk ct0 rfl
 cases t30
 ·rw [cond_false] at H
  obtain ⟨hk, bk⟩ := hs.call tk0 (.c (gK d3) .n)
  refine st 16 [true] (k_call H (fun _ m => shutterlaw19_awake.calls m hk) ?_)
  rintro t55 _ h H ⟨I, _, ⟨rfl, rfl⟩, hk⟩
  replace hs := bk hk ct0 rfl
  refine st 2 [] ?_
  refine k_retQ ?_
  obtain rfl := Option.some.inj H
  exact ⟨_, by kernel_rfl, I, _, ⟨rfl, rfl⟩, hs.pk .n⟩
 ·rw [cond_true] at H
  refine st 4 [] (k_ite H (fun c31 H => ?_) (fun c31 H => ?_))
  ·obtain ⟨hk, bk⟩ := hs.call tk0 (.c (gK d3) .n)
   refine st 11 [true] (k_call H (fun _ m => shutterlaw19_awake.calls m hk) ?_)
   rintro t32 _ h H ⟨I, _, ⟨rfl, rfl⟩, hk⟩
   replace hs := bk hk ct0 rfl
   refine st 2 [] ?_
   refine k_retQ ?_
   obtain rfl := Option.some.inj H
   exact ⟨_, by kernel_rfl, I, _, ⟨rfl, rfl⟩, hs.pk .n⟩
  ·refine st 3 [] (k_op (lB (hs.bl d0) 2 rfl ?_))
   refine st 1 [] (k_ite H (fun c33 H => ?_) (fun c33 H => ?_))
   ·obtain ⟨hk, bk⟩ := hs.call tk0 (.c (gK d3) .n)
    refine st 5 [true] (k_call H (fun _ m => shutterlaw19_awake.calls m hk) ?_)
    rintro t34 _ h H ⟨I, _, ⟨rfl, rfl⟩, hk⟩
    replace hs := bk hk ct0 rfl
    refine st 2 [] ?_
    refine k_retQ ?_
    obtain rfl := Option.some.inj H
    exact ⟨_, by kernel_rfl, I, _, ⟨rfl, rfl⟩, hs.pk .n⟩
   ·refine st 7 [false] (k_op (lN (hs.bl d0) 0 3 ?_))
    obtain ⟨hk, bk⟩ := hs.call tk0 (.c (qB d1) (.c (qB d2) .n))
    refine k_call H (fun _ m => frame_Seal.calls m hk) ?_
    rintro t35 _ h H ⟨I, _, ⟨a36, p37, n38, v40, rfl, rfl⟩, hk⟩
    replace hs := bk hk ct2 rfl
    obtain rfl := hs.nO d0
    refine st 8 [] (k_op (lN (hs.bl d2) 0 3 ?_))
    obtain ⟨hk, bk⟩ := hs.call tk0 (.c (qB d4) .n)
    refine k_call H (fun _ m => shutterref19_Wrong.calls m hk) ?_
    rintro t42 _ h H ⟨I, _, ⟨rfl, rfl⟩, hk⟩
    replace hs := bk hk ct0 rfl
    refine st 6 [] (k_iteN H (fun c43 H => ?_) (fun c43 H => ?_))
    ·rcases (hs.er d1).cases with ⟨c44, rfl⟩ | ⟨c44, t45, u46, rfl⟩
     ·rw [if_pos c44] at H
      refine st 10 [false] (k_op (lN (hs.bl d2) 0 3 ?_))
      obtain ⟨hk, bk⟩ := hs.call tk0 (.c (qB d3) (.c (qB d4) .n))
      refine k_call H (fun _ m => shutterref19_Seal.calls m hk) ?_
      rintro t47 _ h H ⟨I, _, ⟨a48, p49, n50, rfl, rfl⟩, hk⟩
      replace hs := bk hk ct1 rfl
      obtain rfl := hs.nO d0
      refine k_call H (fun _ m => shutterref01_Same.calls m (hs.sO d1) (hs.sO d0)) ?_
      rintro t52 _ _ H ⟨rfl, rfl⟩
      refine st 3 [] ?_
      refine k_retQ ?_
      obtain rfl := Option.some.inj H
      exact ⟨_, by kernel_rfl, I, _, ⟨rfl, rfl⟩, hs.pk .n⟩
     ·rw [if_neg c44] at H
      refine st 16 [false] ?_
      refine k_retQ ?_
      obtain rfl := Option.some.inj H
      exact ⟨_, by kernel_rfl, I, _, ⟨rfl, rfl⟩, hs.pk .n⟩
    ·obtain ⟨hk, bk⟩ := hs.call tk0 (.c (xI d1) (.c (gK d5) .n))
     refine st 5 [true] (k_call H (fun _ m => api_Code.calls m hk) ?_)
     rintro t53 _ h H ⟨I, _, ⟨rfl, rfl⟩, hk⟩
     replace hs := bk hk ct0 rfl
     refine st 1 [] (k_ite H (fun c54 H => ?_) (fun c54 H => ?_))
     ·refine st 7 [] ?_
      refine k_retQ ?_
      obtain rfl := Option.some.inj H
      exact ⟨_, by kernel_rfl, I, _, ⟨rfl, rfl⟩, hs.pk .n⟩
     ·refine st 7 [] ?_
      refine k_retQ ?_
      obtain rfl := Option.some.inj H
      exact ⟨_, by kernel_rfl, I, _, ⟨rfl, rfl⟩, hs.pk .n⟩

/-! shutter/shutterref19.Same -/
def shutterref19_Same.m (K : Nat) (x0 : api_Frame) (x1 : api_Frame) : Option Bool :=
  (if x0.Dir = x1.Dir then (if x0.Seq = x1.Seq then ((shutterref01_Same.m K x0.Body x1.Body).bind fun t33 => (some t33)) else (some false)) else (some false))

theorem shutterref19_Same.calls {B I : Gh} {h : Heap} {K : Nat} {x0 : api_Frame} {x1 : api_Frame} {a21 : Option Addr} {p22 : Nat} {n23 : Nat} {a25 : Option Addr} {p26 : Nat} {n27 : Nat} {r : Bool} (H : shutterref19_Same.m K x0 x1 = some r)  :
    Fc Tryd.prog 16 #[.agg #[.int .i64 x0.Dir, .int .i64 x0.Seq, .slice a21 n23 p22], .agg #[.int .i64 x1.Dir, .int .i64 x1.Seq, .slice a25 n27 p26]] [rR (tInt .u8) .b a21 p22 n23 x0.Body, rR (tInt .u8) .b a25 p26 n27 x1.Body] B I h (fun v L => v = .bool r ∧ L = []) := by
 refine fc_of fun E hs => ?_
 unfold shutterref19_Same.m at H
 obtain rfl := hs.nR d0
 obtain rfl := hs.nR d1
 refine fn_of (args := [.agg #[.int .i64 x0.Dir, .int .i64 x0.Seq, .slice a21 x0.Body.length p22], .agg #[.int .i64 x1.Dir, .int .i64 x1.Seq, .slice a25 x1.Body.length p26]]) (rs := [.tmp 4]) (N := 24) Tryd.func16 rfl rfl rfl rfl ?_
 refine st 2 [] (k_op (nB hs [.int .i64 x0.Dir, .int .i64 x0.Seq, .slice a21 x0.Body.length p22] ?_))
 intro b29 h hs
 refine k_op (nB hs [.int .i64 x1.Dir, .int .i64 x1.Seq, .slice a25 x1.Body.length p26] ?_)
 intro b30 h hs
 refine st 5 [] (k_op (lB (hs.bl d1) 0 rfl ?_))
 refine st 1 [] (k_op (lB (hs.bl d0) 0 rfl ?_))
 refine k_ite H (fun c31 H => ?_) (fun c31 H => ?_)
 ·refine st 2 [] (k_op (lB (hs.bl d1) 1 rfl ?_))
  refine st 1 [] (k_op (lB (hs.bl d0) 1 rfl ?_))
  refine k_ite H (fun c32 H => ?_) (fun c32 H => ?_)
  ·refine st 3 [] (k_op (lB (hs.bl d1) 2 rfl ?_))
   refine st 1 [] (k_op (lB (hs.bl d0) 2 rfl ?_))
   refine k_call H (fun _ m => shutterref01_Same.calls m (hs.sR d2) (hs.sR d3)) ?_
   rintro t33 _ _ H ⟨rfl, rfl⟩
   refine st 3 [] ?_
   refine k_retQ ?_
   obtain rfl := Option.some.inj H
   exact ⟨_, by kernel_rfl, I, _, ⟨rfl, rfl⟩, hs.pk .n⟩
  ·refine st 10 [] ?_
   refine k_retQ ?_
   obtain rfl := Option.some.inj H
   exact ⟨_, by kernel_rfl, I, _, ⟨rfl, rfl⟩, hs.pk .n⟩
 ·refine st 16 [] ?_
  refine k_retQ ?_
  obtain rfl := Option.some.inj H
  exact ⟨_, by kernel_rfl, I, _, ⟨rfl, rfl⟩, hs.pk .n⟩

/-! shutter/shutterlaw19.FrameBack -/
def shutterlaw19_FrameBack.m (K : Nat) (x0 : (List Int)) (x1 : api_Frame) (x2 : (List Int)) (x3 : Int) : Option Bool :=
  ((shutterlaw19_awake.m K).bind fun t34 => bif t34 then (if (x0.length : Int) > 200 then ((shutterlaw19_awake.m K).bind fun t36 => (some t36)) else (if (x1.Body.length : Int) > 1000 then ((shutterlaw19_awake.m K).bind fun t38 => (some t38)) else (if (x2.length : Int) > 1000 then ((shutterlaw19_awake.m K).bind fun t40 => (some t40)) else ((frame_Seal.m K x0 x1).bind fun t41 => (letJ (α := Option Bool) ((frame_Open.m K x0 x3 x2).bind fun t78 => (if t78.2 = GoErr.nil then ((frame_Seal.m K x0 t78.1).bind fun t89 => (if t89.2 = GoErr.nil then ((shutterref01_Same.m K t89.1 x2).bind fun t99 => (some t99)) else (some false))) else ((shutterref19_Same.m K t78.1 (⟨0, 0, []⟩ : api_Frame)).bind fun t100 => (some t100)))) fun (j77 : Option Bool) => (letJ (α := Bool → Option Bool) (fun (x51 : Bool) => (bif x51 then ((frame_Open.m K x0 x1.Dir t41.1).bind fun t53 => ((frame_Open.m K x0 (w64 (1 - x1.Dir)) t41.1).bind fun t61 => (if t53.2 = GoErr.nil then ((shutterref19_Same.m K t53.1 x1).bind fun t72 => bif t72 then ((api_Code.m t61.2).bind fun t73 => (if t73 = 13 then (if (t41.1.length : Int) = (w64 ((x1.Body.length : Int) + 26)) then j77 else (some false)) else (some false))) else (some false)) else (some false)))) else j77)) fun (j52 : Bool → Option Bool) => (if t41.2 = GoErr.nil then (j52 true) else (j52 false)))))))) else ((shutterlaw19_awake.m K).bind fun t102 => (some t102)))

theorem shutterlaw19_FrameBack.calls {B I : Gh} {h : Heap} {K : Nat} {x0 : (List Int)} {x1 : api_Frame} {x2 : (List Int)} {x3 : Int} {a21 : Option Addr} {p22 : Nat} {n23 : Nat} {a25 : Option Addr} {p26 : Nat} {n27 : Nat} {a29 : Option Addr} {p30 : Nat} {n31 : Nat} {r : Bool} (H : shutterlaw19_FrameBack.m K x0 x1 x2 x3 = some r)  :
    Fc Tryd.prog 4 #[.slice a21 n23 p22, .agg #[.int .i64 x1.Dir, .int .i64 x1.Seq, .slice a25 n27 p26], .slice a29 n31 p30, .int .i64 x3] [rR (tInt .u8) .b a21 p22 n23 x0, rR (tInt .u8) .b a25 p26 n27 x1.Body, rR (tInt .u8) .b a29 p30 n31 x2, rG] B I h (fun v L => v = .bool r ∧ L = []) := by
 refine fc_of fun E hs => ?_
 unfold shutterlaw19_FrameBack.m at H
 obtain rfl := hs.nR d0
 obtain rfl := hs.nR d1
 obtain rfl := hs.nR d2
 refine fn_of (args := [.slice a21 x0.length p22, .agg #[.int .i64 x1.Dir, .int .i64 x1.Seq, .slice a25 x1.Body.length p26], .slice a29 x2.length p30, .int .i64 x3]) (rs := [.tmp 8]) (N := 110) Tryd.func4 rfl rfl rfl rfl ?_
 refine st 2 [] (k_op (nB hs [.int .i64 x1.Dir, .int .i64 x1.Seq, .slice a25 x1.Body.length p26] ?_))
 intro b33 h hs
 obtain ⟨hk, bk⟩ := hs.call tk0 (.c (gK d4) .n)
 refine st 5 [] (k_call H (fun _ m => shutterlaw19_awake.calls m hk) ?_)
 rintro t34 _ h H ⟨I, _, ⟨rfl, rfl⟩, hk⟩
 replace hs := bk hk ct0 rfl
 cases t34
 ·rw [cond_false] at H
  obtain ⟨hk, bk⟩ := hs.call tk0 (.c (gK d4) .n)
  refine st 21 [true] (k_call H (fun _ m => shutterlaw19_awake.calls m hk) ?_)
  rintro t102 _ h H ⟨I, _, ⟨rfl, rfl⟩, hk⟩
  replace hs := bk hk ct0 rfl
  refine st 2 [] ?_
  refine k_retQ ?_
  obtain rfl := Option.some.inj H
  exact ⟨_, by kernel_rfl, I, _, ⟨rfl, rfl⟩, hs.pk .n⟩
 ·rw [cond_true] at H
  refine st 4 [] (k_ite H (fun c35 H => ?_) (fun c35 H => ?_))
  ·obtain ⟨hk, bk⟩ := hs.call tk0 (.c (gK d4) .n)
   refine st 16 [true] (k_call H (fun _ m => shutterlaw19_awake.calls m hk) ?_)
   rintro t36 _ h H ⟨I, _, ⟨rfl, rfl⟩, hk⟩
   replace hs := bk hk ct0 rfl
   refine st 2 [] ?_
   refine k_retQ ?_
   obtain rfl := Option.some.inj H
   exact ⟨_, by kernel_rfl, I, _, ⟨rfl, rfl⟩, hs.pk .n⟩
  ·refine st 3 [] (k_op (lB (hs.bl d0) 2 rfl ?_))
   refine st 1 [] (k_ite H (fun c37 H => ?_) (fun c37 H => ?_))
   ·obtain ⟨hk, bk⟩ := hs.call tk0 (.c (gK d4) .n)
    refine st 10 [true] (k_call H (fun _ m => shutterlaw19_awake.calls m hk) ?_)
    rintro t38 _ h H ⟨I, _, ⟨rfl, rfl⟩, hk⟩
    replace hs := bk hk ct0 rfl
    refine st 2 [] ?_
    refine k_retQ ?_
    obtain rfl := Option.some.inj H
    exact ⟨_, by kernel_rfl, I, _, ⟨rfl, rfl⟩, hs.pk .n⟩
   ·refine st 4 [] (k_ite H (fun c39 H => ?_) (fun c39 H => ?_))
    ·obtain ⟨hk, bk⟩ := hs.call tk0 (.c (gK d4) .n)
     refine st 5 [true] (k_call H (fun _ m => shutterlaw19_awake.calls m hk) ?_)
     rintro t40 _ h H ⟨I, _, ⟨rfl, rfl⟩, hk⟩
     replace hs := bk hk ct0 rfl
     refine st 2 [] ?_
     refine k_retQ ?_
     obtain rfl := Option.some.inj H
     exact ⟨_, by kernel_rfl, I, _, ⟨rfl, rfl⟩, hs.pk .n⟩
    ·refine st 7 [false] (k_op (lN (hs.bl d0) 0 3 ?_))
     obtain ⟨hk, bk⟩ := hs.call tk0 (.c (qB d1) (.c (qB d2) .n))
     refine k_call H (fun _ m => frame_Seal.calls m hk) ?_
     rintro t41 _ h H ⟨I, _, ⟨a42, p43, n44, v46, rfl, rfl⟩, hk⟩
     replace hs := bk hk ct2 rfl
     obtain rfl := hs.nO d0
     refine st 7 [] ?_
     obtain ⟨j77, e101, H⟩ := letJ_some H
     refine k_join (fun ρ h => ∃ (I : Gh), j77 = some r ∧ Fits [(0, .slice a21 x0.length p22), (2, .slice a29 x2.length p30), (3, .int .i64 x3)] ρ ∧ St E [rR (tInt .u8) .b a21 p22 x0.length x0, rR (tInt .u8) .b a29 p30 x2.length x2, rG] I h) ?_ ?_
     ·refine st 1 [] ?_
      obtain ⟨j52, e76, H⟩ := letJ_some H
      refine k_join (fun ρ h => ∃ (x51 : Bool) (I : Gh), j52 x51 = some r ∧ Fits [(0, .slice a21 x0.length p22), (2, .slice a29 x2.length p30), (3, .int .i64 x3), (5, .pointer (some ⟨b33, 0, none⟩)), (9, .slice a42 t41.1.length p43), (45, .bool x51)] ρ ∧ St E [rR (tInt .u8) .b a21 p22 x0.length x0, rR (tInt .u8) .b a29 p30 x2.length x2, rO (tInt .u8) .i a42 p43 t41.1.length t41.1, rR (tInt .u8) .b a25 p26 x1.Body.length x1.Body, rB b33 [.int .i64 x1.Dir, .int .i64 x1.Seq, .slice a25 x1.Body.length p26] 24, rG] I h) ?_ ?_
      ·rcases (hs.er d1).cases with ⟨c48, rfl⟩ | ⟨c48, t49, u50, rfl⟩
       ·rw [if_pos c48] at H
        refine st 4 [] ?_
        exact k_end ⟨true, I, H, ⟨by kernel_rfl, by kernel_rfl, by kernel_rfl, by kernel_rfl, by kernel_rfl, by kernel_rfl, trivial⟩, hs.pk (.c d3 (.c d4 (.c d0 (.c d2 (.c d1 (.c d1 .n))))))⟩
       ·rw [if_neg c48] at H
        refine st 4 [] ?_
        exact k_end ⟨false, I, H, ⟨by kernel_rfl, by kernel_rfl, by kernel_rfl, by kernel_rfl, by kernel_rfl, by kernel_rfl, trivial⟩, hs.pk (.c d3 (.c d4 (.c d0 (.c d2 (.c d1 (.c d1 .n))))))⟩
      ·clear H
       rintro ρ h ⟨x51, I, H, hf, hs⟩
       refine k_fits _ hf ?_ rfl
       subst e76
       try dsimp only at H
       cases x51
       ·rw [cond_false] at H
        refine st 2 [false] ?_
        exact k_end ⟨I, H, ⟨by kernel_rfl, by kernel_rfl, by kernel_rfl, trivial⟩, hs.pk (.c d0 (.c d0 (.c d3 .n)))⟩
       ·rw [cond_true] at H
        refine st 5 [true] (k_op (lB (hs.bl d4) 0 rfl ?_))
        obtain ⟨hk, bk⟩ := hs.call tk0 (.c (qB d0) (.c (qO d2) .n))
        refine st 1 [] (k_call H (fun _ m => frame_Open.calls m hk) ?_)
        rintro t53 _ h H ⟨I, _, ⟨a54, p55, n56, v58, rfl, rfl⟩, hk⟩
        replace hs := bk hk ct2 rfl
        obtain rfl := hs.nO d0
        refine st 3 [] (k_op (nA hs [.int .i64 0, .int .i64 0, .slice none 0 0] (.agg #[.int .i64 0, .int .i64 0, .slice none 0 0]) ?_))
        intro b60 h hs
        refine k_op (sN hs 0 [.int .i64 t53.1.Dir, .int .i64 t53.1.Seq, .slice a54 t53.1.Body.length p55] [.int .i64 t53.1.Dir, .int .i64 t53.1.Seq, .slice a54 t53.1.Body.length p55] (ones_of rfl) ?_)
        intro h hs
        refine st 6 [] (k_op (lB (hs.bl d7) 0 rfl ?_))
        obtain ⟨hk, bk⟩ := hs.call tk0 (.c (qB d3) (.c (qO d5) .n))
        refine st 2 [] (k_call H (fun _ m => frame_Open.calls m hk) ?_)
        rintro t61 _ h H ⟨I, _, ⟨a62, p63, n64, v66, rfl, rfl⟩, hk⟩
        replace hs := bk hk ct2 rfl
        obtain rfl := hs.nO d0
        refine st 3 [] (k_op (nA hs [.int .i64 0, .int .i64 0, .slice none 0 0] (.agg #[.int .i64 0, .int .i64 0, .slice none 0 0]) ?_))
        intro b68 h hs
        refine k_op (sN hs 0 [.int .i64 t61.1.Dir, .int .i64 t61.1.Seq, .slice a62 t61.1.Body.length p63] [.int .i64 t61.1.Dir, .int .i64 t61.1.Seq, .slice a62 t61.1.Body.length p63] (ones_of rfl) ?_)
        intro h hs
        rcases (hs.er d5).cases with ⟨c69, rfl⟩ | ⟨c69, t70, u71, rfl⟩
        ·rw [if_pos c69] at H
         refine st 7 [] (k_op (lN (hs.bl d3) 0 3 ?_))
         refine k_op (lN (hs.bl d10) 0 3 ?_)
         obtain ⟨hk, bk⟩ := hs.call tk0 (.c (qO d4) (.c (qB d9) .n))
         refine k_call H (fun _ m => shutterref19_Same.calls m hk) ?_
         rintro t72 _ h H ⟨I, _, ⟨rfl, rfl⟩, hk⟩
         replace hs := bk hk ct0 rfl
         cases t72
         ·rw [cond_false] at H
          refine st 22 [true] ?_
          refine k_retQ (krJ ?_)
          obtain rfl := Option.some.inj H
          exact ⟨_, by kernel_rfl, I, _, ⟨rfl, rfl⟩, hs.pk .n⟩
         ·rw [cond_true] at H
          obtain ⟨hk, bk⟩ := hs.call tk0 (.c (xI d2) (.c (gK d11) .n))
          refine st 4 [] (k_call H (fun _ m => api_Code.calls m hk) ?_)
          rintro t73 _ h H ⟨I, _, ⟨rfl, rfl⟩, hk⟩
          replace hs := bk hk ct0 rfl
          refine k_iteN H (fun c74 H => ?_) (fun c74 H => ?_)
          ·refine st 5 [] (k_op (lB (hs.bl d10) 2 rfl ?_))
           refine st 2 [] (k_iteN H (fun c75 H => ?_) (fun c75 H => ?_))
           ·refine st 4 [false] ?_
            exact k_end ⟨I, H, ⟨by kernel_rfl, by kernel_rfl, by kernel_rfl, trivial⟩, hs.pk (.c d6 (.c d6 (.c d9 .n)))⟩
           ·refine st 7 [true] ?_
            refine k_retQ (krJ ?_)
            obtain rfl := Option.some.inj H
            exact ⟨_, by kernel_rfl, I, _, ⟨rfl, rfl⟩, hs.pk .n⟩
          ·refine st 16 [true] ?_
           refine k_retQ (krJ ?_)
           obtain rfl := Option.some.inj H
           exact ⟨_, by kernel_rfl, I, _, ⟨rfl, rfl⟩, hs.pk .n⟩
        ·rw [if_neg c69] at H
         refine st 32 [true] ?_
         refine k_retQ (krJ ?_)
         obtain rfl := Option.some.inj H
         exact ⟨_, by kernel_rfl, I, _, ⟨rfl, rfl⟩, hs.pk .n⟩
     ·clear H
      rintro ρ h ⟨I, H, hf, hs⟩
      refine k_fits _ hf ?_ rfl
      subst e101
      try dsimp only at H
      obtain ⟨hk, bk⟩ := hs.call tk0 (.c (qB d0) (.c (qB d1) .n))
      refine st 5 [] (k_call H (fun _ m => frame_Open.calls m hk) ?_)
      rintro t78 _ h H ⟨I, _, ⟨a79, p80, n81, v83, rfl, rfl⟩, hk⟩
      replace hs := bk hk ct2 rfl
      obtain rfl := hs.nO d0
      refine st 3 [] (k_op (nA hs [.int .i64 0, .int .i64 0, .slice none 0 0] (.agg #[.int .i64 0, .int .i64 0, .slice none 0 0]) ?_))
      intro b85 h hs
      refine k_op (sN hs 0 [.int .i64 t78.1.Dir, .int .i64 t78.1.Seq, .slice a79 t78.1.Body.length p80] [.int .i64 t78.1.Dir, .int .i64 t78.1.Seq, .slice a79 t78.1.Body.length p80] (ones_of rfl) ?_)
      intro h hs
      rcases (hs.er d2).cases with ⟨c86, rfl⟩ | ⟨c86, t87, u88, rfl⟩
      ·rw [if_pos c86] at H
       refine st 13 [false] (k_op (lN (hs.bl d0) 0 3 ?_))
       obtain ⟨hk, bk⟩ := hs.call tk0 (.c (qB d3) (.c (qO d1) .n))
       refine k_call H (fun _ m => frame_Seal.calls m hk) ?_
       rintro t89 _ h H ⟨I, _, ⟨a90, p91, n92, v94, rfl, rfl⟩, hk⟩
       replace hs := bk hk ct2 rfl
       obtain rfl := hs.nO d0
       rcases (hs.er d1).cases with ⟨c96, rfl⟩ | ⟨c96, t97, u98, rfl⟩
       ·rw [if_pos c96] at H
        refine st 13 [] (k_call H (fun _ m => shutterref01_Same.calls m ((hs.sO d0)).up1 (hs.sR d6)) ?_)
        rintro t99 _ _ H ⟨rfl, rfl⟩
        refine st 3 [] ?_
        refine k_retQ ?_
        obtain rfl := Option.some.inj H
        exact ⟨_, by kernel_rfl, I, _, ⟨rfl, rfl⟩, hs.pk .n⟩
       ·rw [if_neg c96] at H
        refine st 17 [] ?_
        refine k_retQ ?_
        obtain rfl := Option.some.inj H
        exact ⟨_, by kernel_rfl, I, _, ⟨rfl, rfl⟩, hs.pk .n⟩
      ·rw [if_neg c86] at H
       refine st 11 [true] (k_op (lN (hs.bl d0) 0 3 ?_))
       obtain ⟨hk, bk⟩ := hs.call tk0 (.c (qO d1) (.c qN .n))
       refine st 1 [] (k_call H (fun _ m => shutterref19_Same.calls m hk) ?_)
       rintro t100 _ h H ⟨I, _, ⟨rfl, rfl⟩, hk⟩
       replace hs := bk hk ct0 rfl
       refine st 2 [] ?_
       refine k_retQ ?_
       obtain rfl := Option.some.inj H
       exact ⟨_, by kernel_rfl, I, _, ⟨rfl, rfl⟩, hs.pk .n⟩

/-! shutter/shutterref19.Open -/
def shutterref19_Open.l1.m (K : Nat) (x2 : (List Int)) : Nat → Int → Int → Option (Int)
  | 0, _, _ => none
  | k + 1, x47, x48 => (if x48 < 10 then (if 0 ≤ x48 then (if x48 < (x2.length : Int) then (shutterref19_Open.l1.m K x2 k (w64 ((w64 (x47 * 256)) + (w64 ((at_ x2 x48))))) (w64 (x48 + 1))) else none) else none) else (some (x47)))
def shutterref19_Open.m (K : Nat) (x0 : (List Int)) (x1 : Int) (x2 : (List Int)) : Option (api_Frame × Int) :=
  (if (x2.length : Int) < 26 then (some ((⟨0, 0, []⟩ : api_Frame), 2)) else (if (x2.length : Int) > 512 then (some ((⟨0, 0, []⟩ : api_Frame), 6)) else (if 0 ≤ (w64 ((x2.length : Int) - 16)) then (if (w64 ((x2.length : Int) - 16)) ≤ (x2.length : Int) then ((shutterref02_Tag.m K x0 (sub x2 0 (w64 ((x2.length : Int) - 16)))).bind fun t34 => ((shutterref01_Same.m K t34 (sub x2 (w64 ((x2.length : Int) - 16)) (x2.length : Int))).bind fun t39 => bif t39 then (if 0 < (x2.length : Int) then (if (at_ x2 0) = 1 then (if 1 < (x2.length : Int) then (if (w64 ((at_ x2 1))) = x1 then (if 2 < (x2.length : Int) then (if (at_ x2 2) > 64 then (some ((⟨0, 0, []⟩ : api_Frame), 1)) else (if x1 > 1 then (some ((⟨0, 0, []⟩ : api_Frame), 1)) else ((shutterref19_Open.l1.m K x2 K 0 2).bind fun x50 => (if 10 ≤ (w64 ((x2.length : Int) - 16)) then ((app [] (sub x2 10 (w64 ((x2.length : Int) - 16)))).bind fun l60 => ((shutterref19_Wrong.m (⟨x1, x50, l60⟩ : api_Frame)).bind fun t66 => (if t66 = 0 then (some ((⟨x1, x50, l60⟩ : api_Frame), 0)) else (some ((⟨0, 0, []⟩ : api_Frame), 1))))) else none)))) else none) else (some ((⟨0, 0, []⟩ : api_Frame), 13))) else none) else (some ((⟨0, 0, []⟩ : api_Frame), 13))) else none) else (some ((⟨0, 0, []⟩ : api_Frame), 11)))) else none) else none)))

theorem shutterref19_Open.calls {B I : Gh} {h : Heap} {K : Nat} {x0 : (List Int)} {x1 : Int} {x2 : (List Int)} {a21 : Option Addr} {p22 : Nat} {n23 : Nat} {a25 : Option Addr} {p26 : Nat} {n27 : Nat} {r : (api_Frame × Int)} (H : shutterref19_Open.m K x0 x1 x2 = some r)  :
    Fc Tryd.prog 17 #[.slice a21 n23 p22, .int .i64 x1, .slice a25 n27 p26] [rR (tInt .u8) .b a21 p22 n23 x0, rR (tInt .u8) .b a25 p26 n27 x2] B I h (fun v L => ∃ (a68 : Option Addr) (p69 : Nat) (n70 : Nat), v = .tuple #[.agg #[.int .i64 r.1.Dir, .int .i64 r.1.Seq, .slice a68 n70 p69], .int .i64 r.2] ∧ L = [rO (tInt .u8) .i a68 p69 n70 r.1.Body]) := by
 refine fc_of fun E hs => ?_
 unfold shutterref19_Open.m at H
 obtain rfl := hs.nR d0
 obtain rfl := hs.nR d1
 refine fn_of2 (args := [.slice a21 x0.length p22, .int .i64 x1, .slice a25 x2.length p26]) (rs := [.cell 6 24, .tmp 7]) (N := 81) Tryd.func17 rfl rfl rfl rfl ?_
 refine st 2 [] (k_op (nA hs [.int .i64 0, .int .i64 0, .slice none 0 0] (.agg #[.int .i64 0, .int .i64 0, .slice none 0 0]) ?_))
 intro b29 h hs
 refine st 12 [] (k_ite H (fun c30 H => ?_) (fun c30 H => ?_))
 ·refine st 5 [true] (k_op (sN hs 0 [.int .i64 0, .int .i64 0, .slice none 0 0] [.int .i64 0, .int .i64 0, .slice none 0 0] (ones_of rfl) ?_))
  intro h hs
  refine st 2 [] ?_
  refine k_retQ ?_
  obtain rfl := Option.some.inj H
  exact ⟨[.agg #[.int .i64 0, .int .i64 0, .slice none 0 0], .int .i64 2], (.cons (.agg (by kernel_rfl) (by kernel_rfl) (by kernel_rfl) ((hs.bl d0).seg_ 0 3 (Nat.le_of_ble_eq_true rfl))) (.cons (.tmp (by kernel_rfl)) .nil)), I, _, ⟨none, 0, 0, rfl, rfl⟩, hs.pk (.f imON .n)⟩
 ·refine st 7 [false] (k_ite H (fun c31 H => ?_) (fun c31 H => ?_))
  ·refine st 5 [true] (k_op (sN hs 0 [.int .i64 0, .int .i64 0, .slice none 0 0] [.int .i64 0, .int .i64 0, .slice none 0 0] (ones_of rfl) ?_))
   intro h hs
   refine st 2 [] ?_
   refine k_retQ ?_
   obtain rfl := Option.some.inj H
   exact ⟨[.agg #[.int .i64 0, .int .i64 0, .slice none 0 0], .int .i64 6], (.cons (.agg (by kernel_rfl) (by kernel_rfl) (by kernel_rfl) ((hs.bl d0).seg_ 0 3 (Nat.le_of_ble_eq_true rfl))) (.cons (.tmp (by kernel_rfl)) .nil)), I, _, ⟨none, 0, 0, rfl, rfl⟩, hs.pk (.f imON .n)⟩
  ·refine st 5 [false] ?_
   obtain ⟨hs0, bk0⟩ := hs.call tk0 (.c (qB d2) (.c (qB d1) .n))
   have hs := hs0
   refine k_regD hs0 12 ?_
   obtain ⟨c32, H⟩ := guard_pos H
   obtain ⟨c33, H⟩ := guard_pos H
   refine aRun [0, 1, 2, 3] 8 hs.keep ?_
   refine aP 4 (.slice (slA a25 p26 (Int.toNat (0 : Int)) 1) ((sub x2 0 (w64 ((x2.length : Int) - 16))).length) (p26 - Int.toNat (0 : Int))) rfl (pSh (e := 5) (k2 := .i64) (hs.sR d0) (Int.le_refl 0) c32 c33) hs.keep ?_
   refine aRun [6, 7, 8] 4 hs.keep ?_
   refine aP 9 (.slice (slA a25 p26 (Int.toNat (w64 ((x2.length : Int) - 16))) 1) ((sub x2 (w64 ((x2.length : Int) - 16)) (x2.length : Int)).length) (p26 - Int.toNat (w64 ((x2.length : Int) - 16)))) rfl (pSl (e := 5) (k1 := .i64) (hs.sR d0) c32 c33 (Int.le_refl _)) hs.keep ?_
   obtain ⟨hk, bk⟩ := hs.call tk0 (.c (qB d1) (.c (qP (qB d0) (lo := 0) (hi := (w64 ((x2.length : Int) - 16))) (Int.le_refl 0) c32 c33) .n))
   refine aO1 5 rfl (o_call H (fun _ m => shutterref02_Tag.calls m hk) ?_)
   rintro t34 _ h H ⟨I, _, ⟨a35, p36, n37, rfl, rfl⟩, hk⟩
   replace hs := bk hk ct1 rfl
   obtain rfl := hs.nO d0
   refine ⟨hs.keep, ?_⟩
   refine aO1 10 rfl (o_call H (fun _ m => shutterref01_Same.calls m ((hs.sO d0)).up1 (Sn.part (hs.sR d1) (lo := (w64 ((x2.length : Int) - 16))) (hi := (x2.length : Int)) c32 c33 (Int.le_refl _))) ?_)
   rintro t39 _ _ H ⟨rfl, rfl⟩
   refine ⟨hs.keep, ?_⟩
   cases t39
   ·rw [cond_false] at H
    refine aRun [11] 0 hs.keep ?_
    replace hs := hs.pk (.c d0 .n)
    replace hs := bk0 hs ct1 rfl
    refine aEnd ?_
    refine st 4 [true] (k_op (sN (hs.f d1) 0 [.int .i64 0, .int .i64 0, .slice none 0 0] [.int .i64 0, .int .i64 0, .slice none 0 0] (ones_of rfl) ?_))
    intro h hs
    refine st 2 [] ?_
    refine k_retQ ?_
    obtain rfl := Option.some.inj H
    exact ⟨[.agg #[.int .i64 0, .int .i64 0, .slice none 0 0], .int .i64 11], (.cons (.agg (by kernel_rfl) (by kernel_rfl) (by kernel_rfl) ((hs.bl d0).seg_ 0 3 (Nat.le_of_ble_eq_true rfl))) (.cons (.tmp (by kernel_rfl)) .nil)), I, _, ⟨none, 0, 0, rfl, rfl⟩, hs.pk (.f imON .n)⟩
   ·rw [cond_true] at H
    refine aRun [11] 0 hs.keep ?_
    replace hs := hs.pk (.c d0 .n)
    replace hs := bk0 hs ct1 rfl
    refine aEnd ?_
    obtain ⟨c40, H⟩ := guard_pos H
    refine st 6 [false] (k_val (elemPtr a25 ((0 : Int).toNat * 1)) (pI (e := 5) (ik := .i64) (hs.sR d3) (by decide) c40) ?_)
    refine k_op (lC ((hs.sR d3).cell1 (by decide) c40) ?_)
    refine k_iteN H (fun c41 H => ?_) (fun c41 H => ?_)
    ·obtain ⟨c42, H⟩ := guard_pos H
     refine st 2 [] (k_val (elemPtr a25 ((1 : Int).toNat * 1)) (pI (e := 5) (ik := .i64) (hs.sR d3) (by decide) c42) ?_)
     refine k_op (lC ((hs.sR d3).cell1 (by decide) c42) ?_)
     refine st 2 [] (k_iteN H (fun c43 H => ?_) (fun c43 H => ?_))
     ·obtain ⟨c44, H⟩ := guard_pos H
      refine st 8 [false] (k_val (elemPtr a25 ((2 : Int).toNat * 1)) (pI (e := 5) (ik := .i64) (hs.sR d3) (by decide) c44) ?_)
      refine k_op (lC ((hs.sR d3).cell1 (by decide) c44) ?_)
      refine k_ite H (fun c45 H => ?_) (fun c45 H => ?_)
      ·refine st 9 [true] (k_op (sN (hs.f d1) 0 [.int .i64 0, .int .i64 0, .slice none 0 0] [.int .i64 0, .int .i64 0, .slice none 0 0] (ones_of rfl) ?_))
       intro h hs
       refine st 2 [] ?_
       refine k_retQ ?_
       obtain rfl := Option.some.inj H
       exact ⟨[.agg #[.int .i64 0, .int .i64 0, .slice none 0 0], .int .i64 1], (.cons (.agg (by kernel_rfl) (by kernel_rfl) (by kernel_rfl) ((hs.bl d0).seg_ 0 3 (Nat.le_of_ble_eq_true rfl))) (.cons (.tmp (by kernel_rfl)) .nil)), I, _, ⟨none, 0, 0, rfl, rfl⟩, hs.pk (.f imON .n)⟩
      ·refine st 2 [] (k_ite H (fun c46 H => ?_) (fun c46 H => ?_))
       ·refine st 6 [true] (k_op (sN (hs.f d1) 0 [.int .i64 0, .int .i64 0, .slice none 0 0] [.int .i64 0, .int .i64 0, .slice none 0 0] (ones_of rfl) ?_))
        intro h hs
        refine st 2 [] ?_
        refine k_retQ ?_
        obtain rfl := Option.some.inj H
        exact ⟨[.agg #[.int .i64 0, .int .i64 0, .slice none 0 0], .int .i64 1], (.cons (.agg (by kernel_rfl) (by kernel_rfl) (by kernel_rfl) ((hs.bl d0).seg_ 0 3 (Nat.le_of_ble_eq_true rfl))) (.cons (.tmp (by kernel_rfl)) .nil)), I, _, ⟨none, 0, 0, rfl, rfl⟩, hs.pk (.f imON .n)⟩
       ·refine st 14 [false] ?_
        obtain ⟨s49, m52, HR51⟩ := bind_some H
        refine k_loop 0 (fun k' ρ h => ∃ (x47 : Int) (x48 : Int) (I : Gh), shutterref19_Open.l1.m K x2 k' x47 x48 = some s49 ∧ Fits [(1, .int .i64 x1), (2, .slice a25 x2.length p26), (6, .pointer (some ⟨b29, 0, none⟩)), (8, .int .i64 (x2.length : Int)), (9, .int .i64 x47), (10, .int .i64 x48)] ρ ∧ St E [rR (tInt .u8) .b a25 p26 x2.length x2, rB b29 [.int .i64 0, .int .i64 0, .slice none 0 0] 24] I h) (fun ρ h => ∃ (x50 : Int) (I : Gh), x50 = s49 ∧ Fits [(1, .int .i64 x1), (2, .slice a25 x2.length p26), (6, .pointer (some ⟨b29, 0, none⟩)), (8, .int .i64 (x2.length : Int)), (9, .int .i64 x50)] ρ ∧ St E [rR (tInt .u8) .b a25 p26 x2.length x2, rB b29 [.int .i64 0, .int .i64 0, .slice none 0 0] 24] I h) K ⟨0, 2, I, m52, ⟨by kernel_rfl, by kernel_rfl, by kernel_rfl, by kernel_rfl, by kernel_rfl, by kernel_rfl, trivial⟩, hs.pk (.c d3 (.c d1 .n))⟩ ?_ rfl ?_
        ·clear HR51 m52 H
         rintro k' ρ h ⟨x47, x48, I, H, hf, hs⟩
         cases k' with
         | zero => cases H
         | succ k =>
          rw [shutterref19_Open.l1.m] at H
          refine k_fits _ hf ?_ rfl
          refine st 4 [] (k_ite H (fun c53 H => ?_) (fun c53 H => ?_))
          ·obtain ⟨c54, H⟩ := guard_pos H
           obtain ⟨c55, H⟩ := guard_pos H
           refine st 10 [true] (k_val (elemPtr a25 (x48.toNat * 1)) (pI (e := 5) (ik := .i64) (hs.sR d0) c54 c55) ?_)
           refine k_op (lC ((hs.sR d0).cell1 c54 c55) ?_)
           refine st 10 [] ?_
           exact k_endL ⟨k, Nat.lt_succ_self _, (w64 ((w64 (x47 * 256)) + (w64 ((at_ x2 x48))))), (w64 (x48 + 1)), I, H, ⟨by kernel_rfl, by kernel_rfl, by kernel_rfl, by kernel_rfl, by kernel_rfl, by kernel_rfl, trivial⟩, hs.pk (.c d0 (.c d0 .n))⟩
          ·refine st 2 [false] ?_
           refine k_out rfl ?_
           obtain rfl := Option.some.inj H
           exact xE ⟨x47, I, rfl, ⟨by kernel_rfl, by kernel_rfl, by kernel_rfl, by kernel_rfl, by kernel_rfl, trivial⟩, hs.pk (.c d0 (.c d0 .n))⟩
        ·rintro ρ h ⟨x50, I, rfl, hf, hs⟩
         have H := HR51
         try dsimp only at H
         refine k_fits _ hf ?_ rfl
         refine st 4 [] (k_op (nS (e := 5) hs .i (tInt .u8) ([] : List Int) [] 1 (.int .u8 0) (Reps.int (I := (Cl.G .i E.B I)) (k := .u8) (l := [])) ?_))
         intro b56 h hs
         obtain ⟨c58, H⟩ := guard_pos H
         replace hs := hs.part d1 (lo := 10) (hi := (w64 ((x2.length : Int) - 16))) (by decide) c58 c33
         refine st 3 [] (k_val (.slice (slA a25 p26 (Int.toNat (10 : Int)) 1) ((sub x2 10 (w64 ((x2.length : Int) - 16))).length) (p26 - Int.toNat (10 : Int))) (pS (e := 5) (k1 := .i64) (k2 := .i64) (hs.sR d2) (by decide) c58 c33) ?_)
         replace hs := (hs.f d1)
         obtain ⟨l60, m61, H⟩ := bind_some H
         refine k_op (aO (e := 5) (bytes := 1) hs ((hs.sR d1).flat flat_int) m61 ?_)
         intro a62 p63 h hs
         refine st 1 [] (k_op (nA hs [.int .i64 0, .int .i64 0, .slice none 0 0] (.agg #[.int .i64 0, .int .i64 0, .slice none 0 0]) ?_))
         intro b65 h hs
         refine k_op (sN hs 0 [.int .i64 x1, .int .i64 x50, .slice a62 l60.length p63] [.int .i64 x1, .int .i64 x50, .slice a62 l60.length p63] (ones_of rfl) ?_)
         intro h hs
         refine st 4 [] (k_op (lN (hs.bl d0) 0 3 ?_))
         obtain ⟨hk, bk⟩ := hs.call tk0 (.c (qO d1) .n)
         refine k_call H (fun _ m => shutterref19_Wrong.calls m hk) ?_
         rintro t66 _ h H ⟨I, _, ⟨rfl, rfl⟩, hk⟩
         replace hs := bk hk ct0 rfl
         refine k_iteN H (fun c67 H => ?_) (fun c67 H => ?_)
         ·refine st 5 [false] (k_op (lN (hs.bl d0) 0 3 ?_))
          refine k_op (sN (hs.f d4) 0 [.int .i64 x1, .int .i64 x50, .slice a62 l60.length p63] [.int .i64 x1, .int .i64 x50, .slice a62 l60.length p63] (ones_of rfl) ?_)
          intro h hs
          refine st 2 [] ?_
          refine k_retQ ?_
          obtain rfl := Option.some.inj H
          exact ⟨[.agg #[.int .i64 x1, .int .i64 x50, .slice a62 l60.length p63], .int .i64 0], (.cons (.agg (by kernel_rfl) (by kernel_rfl) (by kernel_rfl) ((hs.bl d0).seg_ 0 3 (Nat.le_of_ble_eq_true rfl))) (.cons (.tmp (by kernel_rfl)) .nil)), I, _, ⟨a62, p63, l60.length, rfl, rfl⟩, hs.pk (.c d2 .n)⟩
         ·refine st 5 [true] (k_op (sN (hs.f d4) 0 [.int .i64 0, .int .i64 0, .slice none 0 0] [.int .i64 0, .int .i64 0, .slice none 0 0] (ones_of rfl) ?_))
          intro h hs
          refine st 2 [] ?_
          refine k_retQ ?_
          obtain rfl := Option.some.inj H
          exact ⟨[.agg #[.int .i64 0, .int .i64 0, .slice none 0 0], .int .i64 1], (.cons (.agg (by kernel_rfl) (by kernel_rfl) (by kernel_rfl) ((hs.bl d0).seg_ 0 3 (Nat.le_of_ble_eq_true rfl))) (.cons (.tmp (by kernel_rfl)) .nil)), I, _, ⟨none, 0, 0, rfl, rfl⟩, hs.pk (.f imON .n)⟩
     ·refine st 6 [true] (k_op (sN (hs.f d1) 0 [.int .i64 0, .int .i64 0, .slice none 0 0] [.int .i64 0, .int .i64 0, .slice none 0 0] (ones_of rfl) ?_))
      intro h hs
      refine st 2 [] ?_
      refine k_retQ ?_
      obtain rfl := Option.some.inj H
      exact ⟨[.agg #[.int .i64 0, .int .i64 0, .slice none 0 0], .int .i64 13], (.cons (.agg (by kernel_rfl) (by kernel_rfl) (by kernel_rfl) ((hs.bl d0).seg_ 0 3 (Nat.le_of_ble_eq_true rfl))) (.cons (.tmp (by kernel_rfl)) .nil)), I, _, ⟨none, 0, 0, rfl, rfl⟩, hs.pk (.f imON .n)⟩
    ·refine st 13 [true] (k_op (sN (hs.f d1) 0 [.int .i64 0, .int .i64 0, .slice none 0 0] [.int .i64 0, .int .i64 0, .slice none 0 0] (ones_of rfl) ?_))
     intro h hs
     refine st 2 [] ?_
     refine k_retQ ?_
     obtain rfl := Option.some.inj H
     exact ⟨[.agg #[.int .i64 0, .int .i64 0, .slice none 0 0], .int .i64 13], (.cons (.agg (by kernel_rfl) (by kernel_rfl) (by kernel_rfl) ((hs.bl d0).seg_ 0 3 (Nat.le_of_ble_eq_true rfl))) (.cons (.tmp (by kernel_rfl)) .nil)), I, _, ⟨none, 0, 0, rfl, rfl⟩, hs.pk (.f imON .n)⟩

end Go.Proofs.YtooaghempnlclaaDoor.Sx
