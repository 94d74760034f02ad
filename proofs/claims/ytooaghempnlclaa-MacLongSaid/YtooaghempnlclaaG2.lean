/- Printed walks, part 2: each function's model, and that the code comes to it. -/
import Derived.Test.YtooaghempnlclaaProg
import Derived.Test.YtooaghempnlclaaV3
import Derived.Test.YtooaghempnlclaaV5
import Derived.Test.YtooaghempnlclaaG1
namespace Go.Proofs.Ytooaghempnlclaa.Sx
open Go
set_option maxRecDepth 100000

/-! shutter/shutterref01.Of -/
def shutterref01_Of.l1.m (K : Nat) : Nat → Int → (List Int) → Option ((List Int))
  | 0, _, _ => none
  | k + 1, x27, x29 => (if x27 < 8 then ((shutterref01_Word.m K (⟨#[54, 97, 48, 57, 101, 54, 54, 55, 98, 98, 54, 55, 97, 101, 56, 53, 51, 99, 54, 101, 102, 51, 55, 50, 97, 53, 52, 102, 102, 53, 51, 97, 53, 49, 48, 101, 53, 50, 55, 102, 57, 98, 48, 53, 54, 56, 56, 99, 49, 102, 56, 51, 100, 57, 97, 98, 53, 98, 101, 48, 99, 100, 49, 57]⟩ : ByteArray) x27).bind fun t36 => (if 0 ≤ x27 then (shutterref01_Of.l1.m K k (w64 (x27 + 1)) (x29.set x27.toNat t36)) else none)) else (some (x29)))
def shutterref01_Of.l2.m (K : Nat) (t38 : (List Int)) : Nat → Int → (List Int) → Option ((List Int))
  | 0, _, _ => none
  | k + 1, x43, x45 => (if x43 < (t38.length : Int) then (if 0 ≤ x43 then (if x43 ≤ (w64 (x43 + 64)) then (if (w64 (x43 + 64)) ≤ (t38.length : Int) then ((shutterref01_Block.m K x45 (sub t38 x43 (w64 (x43 + 64)))).bind fun t55 => (shutterref01_Of.l2.m K t38 k (w64 (x43 + 64)) t55)) else none) else none) else none) else (some (x45)))
def shutterref01_Of.l3.m (K : Nat) (x48 : List Int) : Nat → Int → (List Int) → Option ((List Int))
  | 0, _, _ => none
  | k + 1, x58, x60 => (if x58 < 32 then (if 0 ≤ (w64 (Int.tdiv x58 4)) then (if (w64 (Int.tdiv x58 4)) < 8 then (if 0 ≤ (IntKind.u64.wrap ((w64 (24 - (w64 (8 * (Int.tmod x58 4))))))) then (if 0 ≤ x58 then (shutterref01_Of.l3.m K x48 k (w64 (x58 + 1)) (x60.set x58.toNat (IntKind.u8.wrap ((bAnd .i64 (shr .i64 (at_ x48 (w64 (Int.tdiv x58 4))) (IntKind.u64.wrap ((w64 (24 - (w64 (8 * (Int.tmod x58 4)))))))) 255))))) else none) else none) else none) else none) else (some (x60)))
def shutterref01_Of.m (K : Nat) (x0 : (List Int)) : Option (List Int) :=
  ((shutterref01_Of.l1.m K K 0 (List.replicate 8 (0 : Int))).bind fun x32 => ((shutterref01_Fill.m K x0).bind fun t38 => ((shutterref01_Of.l2.m K t38 K 0 x32).bind fun x48 => ((shutterref01_Of.l3.m K x48 K 0 (List.replicate 32 (0 : Int))).bind fun x63 => (some x63)))))

theorem shutterref01_Of.calls {B I : Gh} {h : Heap} {K : Nat} {x0 : (List Int)} {a21 : Option Addr} {p22 : Nat} {n23 : Nat} {r : (List Int)} (H : shutterref01_Of.m K x0 = some r)  :
    Fc Try.prog 15 #[.slice a21 n23 p22] [rR (tInt .u8) .b a21 p22 n23 x0] B I h (fun v L => v = .agg (List.map (Value.int .u8) r).toArray ∧ L = [] ∧ List.length r = 32) := by
 refine fc_of fun E hs => ?_
 unfold shutterref01_Of.m at H
 obtain rfl := hs.nR d0
 refine fn_of2 (args := [.slice a21 x0.length p22]) (rs := [.cell 2 27]) (N := 51) Try.func15 rfl rfl rfl rfl ?_
 refine st 2 [] (k_op (nA hs (List.map (Value.int .u8) (List.replicate 32 (0 : Int))) (.agg (List.map (Value.int .u8) (List.replicate 32 (0 : Int))).toArray) ?_))
 intro b25 h hs
 refine st 3 [] (k_op (nA hs (List.map (Value.int .i64) (List.replicate 8 (0 : Int))) (.agg (List.map (Value.int .i64) (List.replicate 8 (0 : Int))).toArray) ?_))
 intro b26 h hs
 refine st 7 [] ?_
 obtain ⟨s30, m34, HR33⟩ := bind_some H
 refine k_loop 0 (fun k' ρ h => ∃ (x27 : Int) (x29 : List Int) (I : Gh), shutterref01_Of.l1.m K k' x27 x29 = some s30 ∧ Fits [(0, .slice a21 x0.length p22), (2, .pointer (some ⟨b25, 0, none⟩)), (3, .pointer (some ⟨b26, 0, none⟩)), (4, .int .i64 x27)] ρ ∧ List.length x29 = 8 ∧ St E [rR (tInt .u8) .b a21 p22 x0.length x0, rB b25 (List.map (Value.int .u8) (List.replicate 32 (0 : Int))) 27, rB b26 (List.map (Value.int .i64) x29) 41] I h) (fun ρ h => ∃ (x32 : List Int) (I : Gh), x32 = s30 ∧ Fits [(0, .slice a21 x0.length p22), (2, .pointer (some ⟨b25, 0, none⟩)), (3, .pointer (some ⟨b26, 0, none⟩))] ρ ∧ List.length x32 = 8 ∧ St E [rR (tInt .u8) .b a21 p22 x0.length x0, rB b25 (List.map (Value.int .u8) (List.replicate 32 (0 : Int))) 27, rB b26 (List.map (Value.int .i64) x32) 41] I h) K ⟨0, (List.replicate 8 (0 : Int)), I, m34, ⟨by kernel_rfl, by kernel_rfl, by kernel_rfl, by kernel_rfl, trivial⟩, (List.length_replicate (n := 8) (a := (0 : Int))), hs.pk (.c d2 (.c d1 (.c d0 .n)))⟩ ?_ rfl ?_
 ·clear HR33 m34 H
  rintro k' ρ h ⟨x27, x29, I, H, hf, hl28, hs⟩
  cases k' with
  | zero => cases H
  | succ k =>
   rw [shutterref01_Of.l1.m] at H
   refine k_fits _ hf ?_ rfl
   refine st 4 [] (k_ite H (fun c35 H => ?_) (fun c35 H => ?_))
   ·refine st 8 [true] (k_call H (fun _ m => shutterref01_Word.calls m) ?_)
    rintro t36 _ _ H ⟨rfl, rfl⟩
    obtain ⟨c37, H⟩ := guard_pos H
    refine k_val (elemPtr (some ⟨b26, 0, none⟩) (x27.toNat * 1)) (pr_indexArr (e := 3) (kk := .i64) (n := 8) (by kernel_rfl) (by kernel_rfl) (by kernel_rfl) (by kernel_rfl) c37 c35) ?_
    refine k_op (sA (hs.f d2) t36 hl28 c37 c35 ?_)
    intro h hs
    refine st 7 [] ?_
    exact k_endL ⟨k, Nat.lt_succ_self _, (w64 (x27 + 1)), (x29.set x27.toNat t36), I, H, ⟨by kernel_rfl, by kernel_rfl, by kernel_rfl, by kernel_rfl, trivial⟩, (len_set hl28), hs.pk (.c d1 (.c d1 (.c d0 .n)))⟩
   ·refine st 2 [false] ?_
    refine k_out rfl ?_
    obtain rfl := Option.some.inj H
    exact xE ⟨x29, I, rfl, ⟨by kernel_rfl, by kernel_rfl, by kernel_rfl, trivial⟩, hl28, hs.pk (.c d0 (.c d0 (.c d0 .n)))⟩
 ·rintro ρ h ⟨x32, I, rfl, hf, hl31, hs⟩
  have H := HR33
  try dsimp only at H
  refine k_fits _ hf ?_ rfl
  obtain ⟨hk, bk⟩ := hs.call tk0 (.c (qB d0) .n)
  refine st 3 [] (k_call H (fun _ m => shutterref01_Fill.calls m hk) ?_)
  rintro t38 _ h H ⟨I, _, ⟨a39, p40, n41, rfl, rfl⟩, hk⟩
  replace hs := bk hk ct1 rfl
  obtain rfl := hs.nO d0
  refine st 8 [] ?_
  obtain ⟨s46, m50, HR49⟩ := bind_some H
  refine k_loop 2 (fun k' ρ h => ∃ (x43 : Int) (x45 : List Int) (I : Gh), shutterref01_Of.l2.m K t38 k' x43 x45 = some s46 ∧ Fits [(2, .pointer (some ⟨b25, 0, none⟩)), (3, .pointer (some ⟨b26, 0, none⟩)), (5, .slice a39 t38.length p40), (6, .int .i64 x43)] ρ ∧ List.length x45 = 8 ∧ St E [rO (tInt .u8) .i a39 p40 t38.length t38, rB b25 (List.map (Value.int .u8) (List.replicate 32 (0 : Int))) 27, rB b26 (List.map (Value.int .i64) x45) 41] I h) (fun ρ h => ∃ (x48 : List Int) (I : Gh), x48 = s46 ∧ Fits [(2, .pointer (some ⟨b25, 0, none⟩)), (3, .pointer (some ⟨b26, 0, none⟩))] ρ ∧ List.length x48 = 8 ∧ St E [rB b25 (List.map (Value.int .u8) (List.replicate 32 (0 : Int))) 27, rB b26 (List.map (Value.int .i64) x48) 41] I h) K ⟨0, x32, I, m50, ⟨by kernel_rfl, by kernel_rfl, by kernel_rfl, by kernel_rfl, trivial⟩, hl31, hs.pk (.c d0 (.c d1 (.c d1 .n)))⟩ ?_ rfl ?_
  ·clear HR49 m50 H
   rintro k' ρ h ⟨x43, x45, I, H, hf, hl44, hs⟩
   cases k' with
   | zero => cases H
   | succ k =>
    rw [shutterref01_Of.l2.m] at H
    refine k_fits _ hf ?_ rfl
    refine st 6 [] (k_ite H (fun c51 H => ?_) (fun c51 H => ?_))
    ·refine st 5 [true] ?_
     obtain ⟨hs0, bk0⟩ := hs.call tk0 (.c (qL d2) (.c (qO d0) .n))
     have hs := hs0
     refine k_regD hs0 7 ?_
     refine aG 0 rfl hs.keep (by have q := (hs0.g d0).1; exact (OwnB.arrSeg (I := No) ⟨q, fun x => x⟩ hl44)) (nmL hs0 d0) ?_
     obtain ⟨c52, H⟩ := guard_pos H
     obtain ⟨c53, H⟩ := guard_pos H
     obtain ⟨c54, H⟩ := guard_pos H
     refine aRun [1, 2, 3, 4] 3 hs.keep ?_
     refine aP 5 (.slice (slA a39 p40 (Int.toNat x43) 1) ((sub t38 x43 (w64 (x43 + 64))).length) (p40 - Int.toNat x43)) rfl (pS (e := 5) (k1 := .i64) (k2 := .i64) (hs.sR d1) c52 c53 c54) hs.keep ?_
     obtain ⟨hk, bk⟩ := hs.call tk0 (.c (qP (qB d1) (lo := x43) (hi := (w64 (x43 + 64))) c52 c53 c54) .n)
     refine aO1 6 rfl (o_call H (fun _ m => shutterref01_Block.calls m hl44 hk) ?_)
     rintro t55 _ h H ⟨I, _, ⟨rfl, rfl, hl56⟩, hk⟩
     replace hs := bk hk ct0 rfl
     refine ⟨hs.keep, ?_⟩
     replace hs := hs.pk .n
     replace hs := bk0 hs ct0 rfl
     refine aOL 7 rfl (sAN (l2 := t55) (hs.f d2) hl44 hl56 ?_)
     intro h hs
     refine aEnd ?_
     refine st 6 [] ?_
     exact k_endL ⟨k, Nat.lt_succ_self _, (w64 (x43 + 64)), t55, I, H, ⟨by kernel_rfl, by kernel_rfl, by kernel_rfl, by kernel_rfl, trivial⟩, hl56, hs.pk (.c d1 (.c d1 (.c d0 .n)))⟩
    ·refine st 2 [false] ?_
     refine k_out rfl ?_
     obtain rfl := Option.some.inj H
     exact xE ⟨x45, I, rfl, ⟨by kernel_rfl, by kernel_rfl, trivial⟩, hl44, hs.pk (.c d1 (.c d1 .n))⟩
  ·rintro ρ h ⟨x48, I, rfl, hf, hl47, hs⟩
   have H := HR49
   try dsimp only at H
   refine k_fits _ hf ?_ rfl
   refine st 2 [] (k_op (nA hs (List.map (Value.int .u8) (List.replicate 32 (0 : Int))) (.agg (List.map (Value.int .u8) (List.replicate 32 (0 : Int))).toArray) ?_))
   intro b57 h hs
   refine st 7 [] ?_
   obtain ⟨s61, m65, HR64⟩ := bind_some H
   refine k_loop 4 (fun k' ρ h => ∃ (x58 : Int) (x60 : List Int) (I : Gh), shutterref01_Of.l3.m K x48 k' x58 x60 = some s61 ∧ Fits [(2, .pointer (some ⟨b25, 0, none⟩)), (3, .pointer (some ⟨b26, 0, none⟩)), (7, .pointer (some ⟨b57, 0, none⟩)), (8, .int .i64 x58)] ρ ∧ List.length x60 = 32 ∧ St E [rB b25 (List.map (Value.int .u8) (List.replicate 32 (0 : Int))) 27, rB b26 (List.map (Value.int .i64) x48) 41, rB b57 (List.map (Value.int .u8) x60) 27] I h) (fun ρ h => ∃ (x63 : List Int) (I : Gh), x63 = s61 ∧ Fits [(2, .pointer (some ⟨b25, 0, none⟩)), (7, .pointer (some ⟨b57, 0, none⟩))] ρ ∧ List.length x63 = 32 ∧ St E [rB b25 (List.map (Value.int .u8) (List.replicate 32 (0 : Int))) 27, rB b57 (List.map (Value.int .u8) x63) 27] I h) K ⟨0, (List.replicate 32 (0 : Int)), I, m65, ⟨by kernel_rfl, by kernel_rfl, by kernel_rfl, by kernel_rfl, trivial⟩, (List.length_replicate (n := 32) (a := (0 : Int))), hs.pk (.c d1 (.c d1 (.c d0 .n)))⟩ ?_ rfl ?_
   ·clear HR64 m65 H
    rintro k' ρ h ⟨x58, x60, I, H, hf, hl59, hs⟩
    cases k' with
    | zero => cases H
    | succ k =>
     rw [shutterref01_Of.l3.m] at H
     refine k_fits _ hf ?_ rfl
     refine st 4 [] (k_ite H (fun c66 H => ?_) (fun c66 H => ?_))
     ·obtain ⟨c67, H⟩ := guard_pos H
      obtain ⟨c68, H⟩ := guard_pos H
      refine st 9 [true] (k_val (elemPtr (some ⟨b26, 0, none⟩) ((w64 (Int.tdiv x58 4)).toNat * 1)) (pr_indexArr (e := 3) (kk := .i64) (n := 8) (by kernel_rfl) (by kernel_rfl) (by kernel_rfl) (by kernel_rfl) c67 c68) ?_)
      refine k_op (lC (((hs.bl d1)).arrCell (i := (w64 (Int.tdiv x58 4))) hl47 c67 c68) ?_)
      obtain ⟨c69, H⟩ := guard_pos H
      refine st 5 [] (k_val (.int .i64 (shr .i64 (at_ x48 (w64 (Int.tdiv x58 4))) (IntKind.u64.wrap ((w64 (24 - (w64 (8 * (Int.tmod x58 4))))))))) (pr_shr (k := .i64) (yk := .u64) (a := (at_ x48 (w64 (Int.tdiv x58 4)))) (b := (IntKind.u64.wrap ((w64 (24 - (w64 (8 * (Int.tmod x58 4)))))))) (by kernel_rfl) (by kernel_rfl) c69) ?_)
      obtain ⟨c70, H⟩ := guard_pos H
      refine st 2 [] (k_val (elemPtr (some ⟨b57, 0, none⟩) (x58.toNat * 1)) (pr_indexArr (e := 5) (kk := .i64) (n := 32) (by kernel_rfl) (by kernel_rfl) (by kernel_rfl) (by kernel_rfl) c70 c66) ?_)
      refine k_op (sA (hs.f d2) (IntKind.u8.wrap ((bAnd .i64 (shr .i64 (at_ x48 (w64 (Int.tdiv x58 4))) (IntKind.u64.wrap ((w64 (24 - (w64 (8 * (Int.tmod x58 4)))))))) 255))) hl59 c70 c66 ?_)
      intro h hs
      refine st 7 [] ?_
      exact k_endL ⟨k, Nat.lt_succ_self _, (w64 (x58 + 1)), (x60.set x58.toNat (IntKind.u8.wrap ((bAnd .i64 (shr .i64 (at_ x48 (w64 (Int.tdiv x58 4))) (IntKind.u64.wrap ((w64 (24 - (w64 (8 * (Int.tmod x58 4)))))))) 255)))), I, H, ⟨by kernel_rfl, by kernel_rfl, by kernel_rfl, by kernel_rfl, trivial⟩, (len_set hl59), hs.pk (.c d1 (.c d1 (.c d0 .n)))⟩
     ·refine st 2 [false] ?_
      refine k_out rfl ?_
      obtain rfl := Option.some.inj H
      exact xE ⟨x60, I, rfl, ⟨by kernel_rfl, by kernel_rfl, trivial⟩, hl59, hs.pk (.c d0 (.c d1 .n))⟩
   ·rintro ρ h ⟨x63, I, rfl, hf, hl62, hs⟩
    have H := HR64
    try dsimp only at H
    refine k_fits _ hf ?_ rfl
    refine st 2 [] (k_op (lG ((hs.bl d1).arrSeg hl62) ?_))
    refine k_op (sAN (l2 := x63) hs (List.length_replicate (n := 32) (a := (0 : Int))) hl62 ?_)
    intro h hs
    refine st 1 [] ?_
    refine k_retQ ?_
    obtain rfl := Option.some.inj H
    exact ⟨[.agg (List.map (Value.int .u8) x63).toArray], (.cons (.agg (by kernel_rfl) (by kernel_rfl) (by kernel_rfl) ((hs.bl d0).arrSeg hl62)) .nil), I, _, ⟨rfl, rfl, hl62⟩, hs.pk .n⟩

/-! shutter/shutterref02.Code -/
def shutterref02_Code.l1.m (K : Nat) : Nat → (List Int) → Option ((List Int))
  | 0, _ => none
  | k + 1, x58 => (if (x58.length : Int) < 64 then ((app x58 [0]).bind fun l74 => (shutterref02_Code.l1.m K k l74)) else (some (x58)))
def shutterref02_Code.l2.m (K : Nat) (x64 : List Int) : Nat → (List Int) → (List Int) → Int → Option ((List Int) × (List Int))
  | 0, _, _, _ => none
  | k + 1, x79, x84, x89 => (if x89 < 64 then (if 0 ≤ x89 then (if x89 < (x64.length : Int) then ((app x79 [(bXor .u8 (at_ x64 x89) 54)]).bind fun l108 => ((app x84 [(bXor .u8 (at_ x64 x89) 92)]).bind fun l115 => (shutterref02_Code.l2.m K x64 k l108 l115 (w64 (x89 + 1))))) else none) else none) else (some ((x79, x84))))
def shutterref02_Code.m (K : Nat) (x0 : (List Int)) (x1 : (List Int)) : Option (List Int) :=
  ((app [] x0).bind fun l32 => (letJ (α := (List Int) → Option (List Int)) (fun (x52 : List Int) => ((shutterref02_Code.l1.m K K x52).bind fun x64 => ((shutterref02_Code.l2.m K x64 K [] [] 0).bind fun (x91, x96) => ((app x91 x1).bind fun l120 => ((shutterref01_Of.m K l120).bind fun t125 => ((app x96 t125).bind fun l129 => ((shutterref01_Of.m K l129).bind fun t134 => (some t134)))))))) fun (j57 : (List Int) → Option (List Int)) => (letJ (α := Bool → Option (List Int)) (fun (x38 : Bool) => (bif x38 then ((shutterref01_Of.m K x0).bind fun t40 => ((app [] t40).bind fun l46 => (j57 l46))) else (j57 l32))) fun (j39 : Bool → Option (List Int)) => (if (x0.length : Int) > 64 then (j39 true) else (j39 false)))))

theorem shutterref02_Code.calls {B I : Gh} {h : Heap} {K : Nat} {x0 : (List Int)} {x1 : (List Int)} {a21 : Option Addr} {p22 : Nat} {n23 : Nat} {a25 : Option Addr} {p26 : Nat} {n27 : Nat} {r : (List Int)} (H : shutterref02_Code.m K x0 x1 = some r)  :
    Fc Try.prog 11 #[.slice a21 n23 p22, .slice a25 n27 p26] [rR (tInt .u8) .b a21 p22 n23 x0, rR (tInt .u8) .b a25 p26 n27 x1] B I h (fun v L => v = .agg (List.map (Value.int .u8) r).toArray ∧ L = [] ∧ List.length r = 32) := by
 refine fc_of fun E hs => ?_
 unfold shutterref02_Code.m at H
 obtain rfl := hs.nR d0
 obtain rfl := hs.nR d1
 refine fn_of2 (args := [.slice a21 x0.length p22, .slice a25 x1.length p26]) (rs := [.cell 4 27]) (N := 56) Try.func11 rfl rfl rfl rfl ?_
 refine st 2 [] (k_op (nA hs (List.map (Value.int .u8) (List.replicate 32 (0 : Int))) (.agg (List.map (Value.int .u8) (List.replicate 32 (0 : Int))).toArray) ?_))
 intro b29 h hs
 refine st 3 [] (k_op (nS (e := 5) hs .i (tInt .u8) ([] : List Int) [] 1 (.int .u8 0) (Reps.int (I := (Cl.G .i E.B I)) (k := .u8) (l := [])) ?_))
 intro b30 h hs
 obtain ⟨l32, m33, H⟩ := bind_some H
 refine st 1 [] (k_op (aO (e := 5) (bytes := 1) hs ((hs.sR d2).flat flat_int) m33 ?_))
 intro a34 p35 h hs
 refine st 3 [] ?_
 obtain ⟨j57, e136, H⟩ := letJ_some H
 refine k_join (fun ρ h => ∃ (x52 : List Int) (a53 : Option Addr) (p54 : Nat) (n55 : Nat) (I : Gh), j57 x52 = some r ∧ Fits [(1, .slice a25 x1.length p26), (4, .pointer (some ⟨b29, 0, none⟩)), (5, .slice a53 n55 p54)] ρ ∧ St E [rR (tInt .u8) .b a25 p26 x1.length x1, rO (tInt .u8) .i a53 p54 n55 x52, rB b29 (List.map (Value.int .u8) (List.replicate 32 (0 : Int))) 27] I h) ?_ ?_
 ·refine st 1 [] ?_
  obtain ⟨j39, e51, H⟩ := letJ_some H
  refine k_join (fun ρ h => ∃ (x38 : Bool) (I : Gh), j39 x38 = some r ∧ Fits [(0, .slice a21 x0.length p22), (1, .slice a25 x1.length p26), (4, .pointer (some ⟨b29, 0, none⟩)), (5, .slice a34 l32.length p35), (16, .bool x38)] ρ ∧ St E [rR (tInt .u8) .b a21 p22 x0.length x0, rR (tInt .u8) .b a25 p26 x1.length x1, rO (tInt .u8) .i a34 p35 l32.length l32, rB b29 (List.map (Value.int .u8) (List.replicate 32 (0 : Int))) 27] I h) ?_ ?_
  ·refine st 3 [] (k_ite H (fun c37 H => ?_) (fun c37 H => ?_))
   ·refine st 1 [] ?_
    exact k_end ⟨true, I, H, ⟨by kernel_rfl, by kernel_rfl, by kernel_rfl, by kernel_rfl, by kernel_rfl, trivial⟩, hs.pk (.c d2 (.c d2 (.c d0 (.c d0 .n))))⟩
   ·refine st 1 [] ?_
    exact k_end ⟨false, I, H, ⟨by kernel_rfl, by kernel_rfl, by kernel_rfl, by kernel_rfl, by kernel_rfl, trivial⟩, hs.pk (.c d2 (.c d2 (.c d0 (.c d0 .n))))⟩
  ·clear H
   rintro ρ h ⟨x38, I, H, hf, hs⟩
   refine k_fits _ hf ?_ rfl
   subst e51
   try dsimp only at H
   cases x38
   ·rw [cond_false] at H
    refine st 2 [false] ?_
    exact k_end ⟨l32, a34, p35, l32.length, I, H, ⟨by kernel_rfl, by kernel_rfl, by kernel_rfl, trivial⟩, hs.pk (.c d1 (.c d1 (.c d1 .n)))⟩
   ·rw [cond_true] at H
    obtain ⟨hk, bk⟩ := hs.call tk0 (.c (qB d0) .n)
    refine st 4 [true] (k_call H (fun _ m => shutterref01_Of.calls m hk) ?_)
    rintro t40 _ h H ⟨I, _, ⟨rfl, rfl, hl41⟩, hk⟩
    replace hs := bk hk ct0 rfl
    refine k_op (nA hs (List.map (Value.int .u8) (List.replicate 32 (0 : Int))) (.agg (List.map (Value.int .u8) (List.replicate 32 (0 : Int))).toArray) ?_)
    intro b42 h hs
    refine k_op (sAN (l2 := t40) hs (List.length_replicate (n := 32) (a := (0 : Int))) hl41 ?_)
    intro h hs
    refine st 2 [] (k_op (nS (e := 5) hs .i (tInt .u8) ([] : List Int) [] 1 (.int .u8 0) (Reps.int (I := (Cl.G .i E.B I)) (k := .u8) (l := [])) ?_))
    intro b43 h hs
    obtain ⟨I, hs⟩ := (hs.f d1).fA hl41
    replace hs := (hs.f d1)
    obtain ⟨l46, m47, H⟩ := bind_some H
    refine st 1 [] (k_op (aO (e := 5) (bytes := 1) hs (hs.sR d1) m47 ?_))
    intro a48 p49 h hs
    refine st 2 [] ?_
    exact k_end ⟨l46, a48, p49, l46.length, I, H, ⟨by kernel_rfl, by kernel_rfl, by kernel_rfl, trivial⟩, hs.pk (.c d3 (.c d0 (.c d3 .n)))⟩
 ·clear H
  rintro ρ h ⟨x52, a53, p54, n55, I, H, hf, hs⟩
  refine k_fits _ hf ?_ rfl
  subst e136
  try dsimp only at H
  obtain rfl := hs.nO d1
  refine st 2 [] ?_
  obtain ⟨s63, m70, HR69⟩ := bind_some H
  refine k_loop 0 (fun k' ρ h => ∃ (x58 : List Int) (a59 : Option Addr) (p60 : Nat) (n61 : Nat) (I : Gh), shutterref02_Code.l1.m K k' x58 = some s63 ∧ Fits [(1, .slice a25 x1.length p26), (4, .pointer (some ⟨b29, 0, none⟩)), (5, .slice a59 n61 p60)] ρ ∧ St E [rR (tInt .u8) .b a25 p26 x1.length x1, rO (tInt .u8) .i a59 p60 n61 x58, rB b29 (List.map (Value.int .u8) (List.replicate 32 (0 : Int))) 27] I h) (fun ρ h => ∃ (x64 : List Int) (a65 : Option Addr) (p66 : Nat) (n67 : Nat) (I : Gh), x64 = s63 ∧ Fits [(1, .slice a25 x1.length p26), (4, .pointer (some ⟨b29, 0, none⟩)), (5, .slice a65 n67 p66)] ρ ∧ St E [rR (tInt .u8) .b a25 p26 x1.length x1, rO (tInt .u8) .i a65 p66 n67 x64, rB b29 (List.map (Value.int .u8) (List.replicate 32 (0 : Int))) 27] I h) K ⟨x52, a53, p54, x52.length, I, m70, ⟨by kernel_rfl, by kernel_rfl, by kernel_rfl, trivial⟩, hs.pk (.c d0 (.c d0 (.c d0 .n)))⟩ ?_ rfl ?_
  ·clear HR69 m70 H
   rintro k' ρ h ⟨x58, a59, p60, n61, I, H, hf, hs⟩
   cases k' with
   | zero => cases H
   | succ k =>
    rw [shutterref02_Code.l1.m] at H
    refine k_fits _ hf ?_ rfl
    obtain rfl := hs.nO d1
    refine st 5 [] (k_ite H (fun c71 H => ?_) (fun c71 H => ?_))
    ·refine st 6 [true] (k_op (nS (e := 5) hs .i (tInt .u8) ([0] : List Int) [.int .u8 0] 1 (.int .u8 0) (Reps.int (I := (Cl.G .i E.B I)) (k := .u8) (l := [0])) ?_))
     intro b72 h hs
     replace hs := (hs.f d2)
     obtain ⟨l74, m75, H⟩ := bind_some H
     refine k_op (aO (e := 5) (bytes := 1) hs (hs.sO d1) m75 ?_)
     intro a76 p77 h hs
     refine st 3 [] ?_
     exact k_endL ⟨k, Nat.lt_succ_self _, l74, a76, p77, l74.length, I, H, ⟨by kernel_rfl, by kernel_rfl, by kernel_rfl, trivial⟩, hs.pk (.c d2 (.c d0 (.c d1 .n)))⟩
    ·refine st 2 [false] ?_
     refine k_out rfl ?_
     obtain rfl := Option.some.inj H
     exact xE ⟨x58, a59, p60, x58.length, I, rfl, ⟨by kernel_rfl, by kernel_rfl, by kernel_rfl, trivial⟩, hs.pk (.c d0 (.c d0 (.c d0 .n)))⟩
  ·rintro ρ h ⟨x64, a65, p66, n67, I, rfl, hf, hs⟩
   have H := HR69
   try dsimp only at H
   refine k_fits _ hf ?_ rfl
   obtain rfl := hs.nO d1
   refine st 14 [] ?_
   obtain ⟨s90, m102, HR101⟩ := bind_some H
   refine k_loop 2 (fun k' ρ h => ∃ (x79 : List Int) (x84 : List Int) (x89 : Int) (a80 : Option Addr) (p81 : Nat) (n82 : Nat) (a85 : Option Addr) (p86 : Nat) (n87 : Nat) (I : Gh), shutterref02_Code.l2.m K x64 k' x79 x84 x89 = some s90 ∧ Fits [(1, .slice a25 x1.length p26), (4, .pointer (some ⟨b29, 0, none⟩)), (5, .slice a65 x64.length p66), (7, .slice a80 n82 p81), (8, .slice a85 n87 p86), (9, .int .i64 x89)] ρ ∧ St E [rR (tInt .u8) .b a25 p26 x1.length x1, rO (tInt .u8) .i a65 p66 x64.length x64, rO (tInt .u8) .i a80 p81 n82 x79, rO (tInt .u8) .i a85 p86 n87 x84, rB b29 (List.map (Value.int .u8) (List.replicate 32 (0 : Int))) 27] I h) (fun ρ h => ∃ (x91 : List Int) (x96 : List Int) (a92 : Option Addr) (p93 : Nat) (n94 : Nat) (a97 : Option Addr) (p98 : Nat) (n99 : Nat) (I : Gh), (x91, x96) = s90 ∧ Fits [(1, .slice a25 x1.length p26), (4, .pointer (some ⟨b29, 0, none⟩)), (7, .slice a92 n94 p93), (8, .slice a97 n99 p98)] ρ ∧ St E [rR (tInt .u8) .b a25 p26 x1.length x1, rO (tInt .u8) .i a92 p93 n94 x91, rO (tInt .u8) .i a97 p98 n99 x96, rB b29 (List.map (Value.int .u8) (List.replicate 32 (0 : Int))) 27] I h) K ⟨[], [], 0, none, 0, 0, none, 0, 0, I, m102, ⟨by kernel_rfl, by kernel_rfl, by kernel_rfl, by kernel_rfl, by kernel_rfl, by kernel_rfl, trivial⟩, hs.pk (.c d0 (.c d0 (.f imON (.f imON (.c d0 .n)))))⟩ ?_ rfl ?_
   ·clear HR101 m102 H
    rintro k' ρ h ⟨x79, x84, x89, a80, p81, n82, a85, p86, n87, I, H, hf, hs⟩
    cases k' with
    | zero => cases H
    | succ k =>
     rw [shutterref02_Code.l2.m] at H
     refine k_fits _ hf ?_ rfl
     obtain rfl := hs.nO d2
     obtain rfl := hs.nO d3
     refine st 4 [] (k_ite H (fun c103 H => ?_) (fun c103 H => ?_))
     ·obtain ⟨c104, H⟩ := guard_pos H
      obtain ⟨c105, H⟩ := guard_pos H
      refine st 10 [true] (k_val (elemPtr a65 (x89.toNat * 1)) (pI (e := 5) (ik := .i64) (hs.sO d1) c104 c105) ?_)
      refine k_op (lC ((hs.sO d1).cell1 c104 c105) ?_)
      refine st 1 [] (k_op (nS (e := 5) hs .i (tInt .u8) ([(bXor .u8 (at_ x64 x89) 54)] : List Int) [.int .u8 (bXor .u8 (at_ x64 x89) 54)] 1 (.int .u8 0) (Reps.int (I := (Cl.G .i E.B I)) (k := .u8) (l := [(bXor .u8 (at_ x64 x89) 54)])) ?_))
      intro b106 h hs
      replace hs := (hs.f d3)
      obtain ⟨l108, m109, H⟩ := bind_some H
      refine k_op (aO (e := 5) (bytes := 1) hs (hs.sO d1) m109 ?_)
      intro a110 p111 h hs
      refine st 6 [] (k_val (elemPtr a65 (x89.toNat * 1)) (pI (e := 5) (ik := .i64) (hs.sO d3) c104 c105) ?_)
      refine k_op (lC ((hs.sO d3).cell1 c104 c105) ?_)
      refine st 1 [] (k_op (nS (e := 5) hs .i (tInt .u8) ([(bXor .u8 (at_ x64 x89) 92)] : List Int) [.int .u8 (bXor .u8 (at_ x64 x89) 92)] 1 (.int .u8 0) (Reps.int (I := (Cl.G .i E.B I)) (k := .u8) (l := [(bXor .u8 (at_ x64 x89) 92)])) ?_))
      intro b113 h hs
      replace hs := (hs.f d5)
      obtain ⟨l115, m116, H⟩ := bind_some H
      refine k_op (aO (e := 5) (bytes := 1) hs (hs.sO d1) m116 ?_)
      intro a117 p118 h hs
      refine st 8 [] ?_
      exact k_endL ⟨k, Nat.lt_succ_self _, l108, l115, (w64 (x89 + 1)), a110, p111, l108.length, a117, p118, l115.length, I, H, ⟨by kernel_rfl, by kernel_rfl, by kernel_rfl, by kernel_rfl, by kernel_rfl, by kernel_rfl, trivial⟩, hs.pk (.c d4 (.c d4 (.c d2 (.c d0 (.c d2 .n)))))⟩
     ·refine st 2 [false] ?_
      refine k_out rfl ?_
      obtain rfl := Option.some.inj H
      exact xE ⟨x79, x84, a80, p81, x79.length, a85, p86, x84.length, I, rfl, ⟨by kernel_rfl, by kernel_rfl, by kernel_rfl, by kernel_rfl, trivial⟩, hs.pk (.c d0 (.c d1 (.c d1 (.c d1 .n))))⟩
   ·rintro ρ h ⟨x91, x96, a92, p93, n94, a97, p98, n99, I, rfl, hf, hs⟩
    have H := HR101
    try dsimp only at H
    refine k_fits _ hf ?_ rfl
    obtain rfl := hs.nO d1
    obtain rfl := hs.nO d2
    replace hs := (hs.f d1)
    obtain ⟨l120, m121, H⟩ := bind_some H
    refine st 4 [] (k_op (aO (e := 5) (bytes := 1) hs ((hs.sR d1).flat flat_int) m121 ?_))
    intro a122 p123 h hs
    obtain ⟨hk, bk⟩ := hs.call tk0 (.c (qO d0) .n)
    refine k_call H (fun _ m => shutterref01_Of.calls m hk) ?_
    rintro t125 _ h H ⟨I, _, ⟨rfl, rfl, hl126⟩, hk⟩
    replace hs := bk hk ct0 rfl
    refine k_op (nA hs (List.map (Value.int .u8) (List.replicate 32 (0 : Int))) (.agg (List.map (Value.int .u8) (List.replicate 32 (0 : Int))).toArray) ?_)
    intro b127 h hs
    refine k_op (sAN (l2 := t125) hs (List.length_replicate (n := 32) (a := (0 : Int))) hl126 ?_)
    intro h hs
    obtain ⟨I, hs⟩ := hs.fA hl126
    replace hs := (hs.f d3)
    obtain ⟨l129, m130, H⟩ := bind_some H
    refine st 5 [] (k_op (aO (e := 5) (bytes := 1) hs (hs.sR d1) m130 ?_))
    intro a131 p132 h hs
    obtain ⟨hk, bk⟩ := hs.call tk0 (.c (qO d0) .n)
    refine k_call H (fun _ m => shutterref01_Of.calls m hk) ?_
    rintro t134 _ h H ⟨I, _, ⟨rfl, rfl, hl135⟩, hk⟩
    replace hs := bk hk ct0 rfl
    refine k_op (sAN (l2 := t134) (hs.f d4) (List.length_replicate (n := 32) (a := (0 : Int))) hl135 ?_)
    intro h hs
    refine st 1 [] ?_
    refine k_retQ ?_
    obtain rfl := Option.some.inj H
    exact ⟨[.agg (List.map (Value.int .u8) t134).toArray], (.cons (.agg (by kernel_rfl) (by kernel_rfl) (by kernel_rfl) ((hs.bl d0).arrSeg hl135)) .nil), I, _, ⟨rfl, rfl, hl135⟩, hs.pk .n⟩

/-! shutter/shutterref02.Tag -/
def shutterref02_Tag.m (K : Nat) (x0 : (List Int)) (x1 : (List Int)) : Option (List Int) :=
  ((shutterref02_Code.m K x0 x1).bind fun t29 => ((app [] (sub t29 0 16)).bind fun l36 => (some l36)))

theorem shutterref02_Tag.calls {B I : Gh} {h : Heap} {K : Nat} {x0 : (List Int)} {x1 : (List Int)} {a21 : Option Addr} {p22 : Nat} {n23 : Nat} {a25 : Option Addr} {p26 : Nat} {n27 : Nat} {r : (List Int)} (H : shutterref02_Tag.m K x0 x1 = some r)  :
    Fc Try.prog 13 #[.slice a21 n23 p22, .slice a25 n27 p26] [rR (tInt .u8) .b a21 p22 n23 x0, rR (tInt .u8) .b a25 p26 n27 x1] B I h (fun v L => ∃ (a41 : Option Addr) (p42 : Nat) (n43 : Nat), v = .slice a41 n43 p42 ∧ L = [rO (tInt .u8) .i a41 p42 n43 r]) := by
 refine fc_of fun E hs => ?_
 unfold shutterref02_Tag.m at H
 obtain rfl := hs.nR d0
 obtain rfl := hs.nR d1
 refine fn_of (args := [.slice a21 x0.length p22, .slice a25 x1.length p26]) (rs := [.tmp 4]) (N := 12) Try.func13 rfl rfl rfl rfl ?_
 obtain ⟨hk, bk⟩ := hs.call tk0 (.c (qB d0) (.c (qB d1) .n))
 refine st 8 [] (k_call H (fun _ m => shutterref02_Code.calls m hk) ?_)
 rintro t29 _ h H ⟨I, _, ⟨rfl, rfl, hl30⟩, hk⟩
 replace hs := bk hk ct0 rfl
 refine k_op (nA hs (List.map (Value.int .u8) (List.replicate 32 (0 : Int))) (.agg (List.map (Value.int .u8) (List.replicate 32 (0 : Int))).toArray) ?_)
 intro b31 h hs
 refine k_op (sAN (l2 := t29) hs (List.length_replicate (n := 32) (a := (0 : Int))) hl30 ?_)
 intro h hs
 refine st 3 [] (k_op (nS (e := 5) hs .i (tInt .u8) ([] : List Int) [] 1 (.int .u8 0) (Reps.int (I := (Cl.G .i E.B I)) (k := .u8) (l := [])) ?_))
 intro b32 h hs
 obtain ⟨I, hs⟩ := (hs.f d1).fA hl30
 replace hs := hs.part d0 (lo := 0) (hi := 16) (Int.le_refl 0) (by decide) (by rw [hl30]; decide)
 refine k_val (.slice (slA (some ⟨b31, 0, none⟩) 32 (Int.toNat (0 : Int)) 1) ((sub t29 0 16).length) (32 - Int.toNat (0 : Int))) (pSA (lo := 0) (hi := 16) 16 (by rw [hl30]; decide)) ?_
 replace hs := (hs.f d2)
 obtain ⟨l36, m37, H⟩ := bind_some H
 refine k_op (aO (e := 5) (bytes := 1) hs (hs.sR d1) m37 ?_)
 intro a38 p39 h hs
 refine st 2 [] ?_
 refine k_retQ ?_
 obtain rfl := Option.some.inj H
 exact ⟨_, by kernel_rfl, I, _, ⟨a38, p39, l36.length, rfl, rfl⟩, hs.pk (.c d0 .n)⟩

/-! shutter/shutterlaw02.MacCodes -/
def shutterlaw02_MacCodes.m (K : Nat) (x0 : (List Int)) (x1 : (List Int)) (x2 : Int) : Option Bool :=
  ((shutterlaw02_awake.m K).bind fun t29 => bif t29 then (if (x0.length : Int) > 200 then ((shutterlaw02_awake.m K).bind fun t31 => (some t31)) else (if (x1.length : Int) > 300 then ((shutterlaw02_awake.m K).bind fun t33 => (some t33)) else (if (w64 ((x1.length : Int) + 1)) ≠ 0 then (letJ (α := (List Int) → Option Bool) (fun (x56 : List Int) => (if 0 ≤ (Int.tmod (w64 (x2)) (w64 ((x1.length : Int) + 1))) then (if (Int.tmod (w64 (x2)) (w64 ((x1.length : Int) + 1))) ≤ (x1.length : Int) then ((mac_Code.m K x0 [(sub x1 0 (Int.tmod (w64 (x2)) (w64 ((x1.length : Int) + 1)))), (sub x1 (Int.tmod (w64 (x2)) (w64 ((x1.length : Int) + 1))) (x1.length : Int))]).bind fun t65 => ((shutterref02_Code.m K x0 x1).bind fun t67 => (bif (t65 == t67) then ((shutterref02_Tag.m K x0 x1).bind fun t70 => ((shutterref01_Same.m K x56 t70).bind fun t75 => (some t75))) else (some false)))) else none) else none)) fun (j57 : (List Int) → Option Bool) => (if 0 ≤ (Int.tmod (w64 (x2)) (w64 ((x1.length : Int) + 1))) then (if (Int.tmod (w64 (x2)) (w64 ((x1.length : Int) + 1))) ≤ (x1.length : Int) then ((mac_Tag.m K x0 [(sub x1 0 (Int.tmod (w64 (x2)) (w64 ((x1.length : Int) + 1)))), (sub x1 (Int.tmod (w64 (x2)) (w64 ((x1.length : Int) + 1))) (x1.length : Int))]).bind fun t41 => (j57 t41)) else none) else none)) else none))) else ((shutterlaw02_awake.m K).bind fun t77 => (some t77)))

theorem shutterlaw02_MacCodes.calls {B I : Gh} {h : Heap} {K : Nat} {x0 : (List Int)} {x1 : (List Int)} {x2 : Int} {a21 : Option Addr} {p22 : Nat} {n23 : Nat} {a25 : Option Addr} {p26 : Nat} {n27 : Nat} {r : Bool} (H : shutterlaw02_MacCodes.m K x0 x1 x2 = some r)  :
    Fc Try.prog 3 #[.slice a21 n23 p22, .slice a25 n27 p26, .int .u16 x2] [rR (tInt .u8) .b a21 p22 n23 x0, rR (tInt .u8) .i a25 p26 n27 x1] B I h (fun v L => v = .bool r ∧ L = []) := by
 refine fc_of fun E hs => ?_
 unfold shutterlaw02_MacCodes.m at H
 obtain rfl := hs.nR d0
 obtain rfl := hs.nR d1
 refine fn_of (args := [.slice a21 x0.length p22, .slice a25 x1.length p26, .int .u16 x2]) (rs := [.tmp 6]) (N := 57) Try.func3 rfl rfl rfl rfl ?_
 obtain ⟨hk, bk⟩ := hs.call tk0 .n
 refine st 7 [] (k_call H (fun _ m => shutterlaw02_awake.calls m hk) ?_)
 rintro t29 _ h H ⟨I, _, ⟨rfl, rfl⟩, hk⟩
 replace hs := bk hk ct0 rfl
 cases t29
 ·rw [cond_false] at H
  obtain ⟨hk, bk⟩ := hs.call tk0 .n
  refine st 15 [true] (k_call H (fun _ m => shutterlaw02_awake.calls m hk) ?_)
  rintro t77 _ h H ⟨I, _, ⟨rfl, rfl⟩, hk⟩
  replace hs := bk hk ct0 rfl
  refine st 2 [] ?_
  refine k_retQ ?_
  obtain rfl := Option.some.inj H
  exact ⟨_, by kernel_rfl, I, _, ⟨rfl, rfl⟩, hs.pk .n⟩
 ·rw [cond_true] at H
  refine st 4 [] (k_ite H (fun c30 H => ?_) (fun c30 H => ?_))
  ·obtain ⟨hk, bk⟩ := hs.call tk0 .n
   refine st 10 [true] (k_call H (fun _ m => shutterlaw02_awake.calls m hk) ?_)
   rintro t31 _ h H ⟨I, _, ⟨rfl, rfl⟩, hk⟩
   replace hs := bk hk ct0 rfl
   refine st 2 [] ?_
   refine k_retQ ?_
   obtain rfl := Option.some.inj H
   exact ⟨_, by kernel_rfl, I, _, ⟨rfl, rfl⟩, hs.pk .n⟩
  ·refine st 4 [] (k_ite H (fun c32 H => ?_) (fun c32 H => ?_))
   ·obtain ⟨hk, bk⟩ := hs.call tk0 .n
    refine st 5 [true] (k_call H (fun _ m => shutterlaw02_awake.calls m hk) ?_)
    rintro t33 _ h H ⟨I, _, ⟨rfl, rfl⟩, hk⟩
    replace hs := bk hk ct0 rfl
    refine st 2 [] ?_
    refine k_retQ ?_
    obtain rfl := Option.some.inj H
    exact ⟨_, by kernel_rfl, I, _, ⟨rfl, rfl⟩, hs.pk .n⟩
   ·obtain ⟨c34, H⟩ := guard_pos H
    refine st 11 [false] (k_val (.int .i64 (Int.tmod (w64 (x2)) (w64 ((x1.length : Int) + 1)))) (pr_rem (k := .i64) (a := (w64 (x2))) (b := (w64 ((x1.length : Int) + 1))) (by kernel_rfl) (by kernel_rfl) c34) ?_)
    refine st 3 [] ?_
    obtain ⟨j57, e76, H⟩ := letJ_some H
    refine k_join (fun ρ h => ∃ (x56 : List Int) (b54 : Nat) (I : Gh), j57 x56 = some r ∧ Fits [(0, .slice a21 x0.length p22), (1, .slice a25 x1.length p26), (7, .int .i64 (Int.tmod (w64 (x2)) (w64 ((x1.length : Int) + 1)))), (8, .pointer (some ⟨b54, 0, none⟩))] ρ ∧ List.length x56 = 16 ∧ St E [rR (tInt .u8) .b a21 p22 x0.length x0, rR (tInt .u8) .i a25 p26 x1.length x1, rB b54 (List.map (Value.int .u8) x56) 25] I h) ?_ ?_
    ·obtain ⟨hs0, bk0⟩ := hs.call tk0 (.c (qK d1) (.c (qB d0) .n))
     have hs := hs0
     refine k_regD hs0 10 ?_
     obtain ⟨c35, H⟩ := guard_pos H
     obtain ⟨c36, H⟩ := guard_pos H
     refine aRun [0, 1, 2] 8 hs.keep ?_
     refine aP 3 (.slice (slA a25 p26 (Int.toNat (0 : Int)) 1) ((sub x1 0 (Int.tmod (w64 (x2)) (w64 ((x1.length : Int) + 1)))).length) (p26 - Int.toNat (0 : Int))) rfl (pSh (e := 5) (k2 := .i64) (hs.sR d0) (Int.le_refl 0) c35 c36) hs.keep ?_
     refine aRun [4, 5] 5 hs.keep ?_
     refine aP 6 (.slice (slA a25 p26 (Int.toNat (Int.tmod (w64 (x2)) (w64 ((x1.length : Int) + 1)))) 1) ((sub x1 (Int.tmod (w64 (x2)) (w64 ((x1.length : Int) + 1))) (x1.length : Int)).length) (p26 - Int.toNat (Int.tmod (w64 (x2)) (w64 ((x1.length : Int) + 1))))) rfl (pSl (e := 5) (k1 := .i64) (hs.sR d0) c35 c36 (Int.le_refl _)) hs.keep ?_
     refine aT2 7 9 ?_ ?_
     ·replace hs := hs.part d0 (lo := 0) (hi := (Int.tmod (w64 (x2)) (w64 ((x1.length : Int) + 1)))) (Int.le_refl 0) c35 c36
      replace hs := hs.part d1 (lo := (Int.tmod (w64 (x2)) (w64 ((x1.length : Int) + 1)))) (hi := (x1.length : Int)) c35 c36 (Int.le_refl _)
      refine aA rfl (nS (e := 22) hs .i (tSl (tInt .u8)) ([(sub x1 0 (Int.tmod (w64 (x2)) (w64 ((x1.length : Int) + 1)))), (sub x1 (Int.tmod (w64 (x2)) (w64 ((x1.length : Int) + 1))) (x1.length : Int))] : List (List Int)) [.slice (slA a25 p26 (Int.toNat (0 : Int)) 1) ((sub x1 0 (Int.tmod (w64 (x2)) (w64 ((x1.length : Int) + 1)))).length) (p26 - Int.toNat (0 : Int)), .slice (slA a25 p26 (Int.toNat (Int.tmod (w64 (x2)) (w64 ((x1.length : Int) + 1)))) 1) ((sub x1 (Int.tmod (w64 (x2)) (w64 ((x1.length : Int) + 1))) (x1.length : Int)).length) (p26 - Int.toNat (Int.tmod (w64 (x2)) (w64 ((x1.length : Int) + 1))))] 1 (.slice none 0 0) (Reps.cons (T := (tSl (tInt .u8))) (c := [.slice (slA a25 p26 (Int.toNat (0 : Int)) 1) ((sub x1 0 (Int.tmod (w64 (x2)) (w64 ((x1.length : Int) + 1)))).length) (p26 - Int.toNat (0 : Int))]) (x := (sub x1 0 (Int.tmod (w64 (x2)) (w64 ((x1.length : Int) + 1))))) ⟨_, _, _, rfl, (hs.g d1)⟩ (Reps.cons (T := (tSl (tInt .u8))) (c := [.slice (slA a25 p26 (Int.toNat (Int.tmod (w64 (x2)) (w64 ((x1.length : Int) + 1)))) 1) ((sub x1 (Int.tmod (w64 (x2)) (w64 ((x1.length : Int) + 1))) (x1.length : Int)).length) (p26 - Int.toNat (Int.tmod (w64 (x2)) (w64 ((x1.length : Int) + 1))))]) (x := (sub x1 (Int.tmod (w64 (x2)) (w64 ((x1.length : Int) + 1))) (x1.length : Int))) ⟨_, _, _, rfl, (hs.g d0)⟩ (.nil : Reps (tSl (tInt .u8)) (Cl.G .i E.B I) h [] []))) ?_)
      intro b39 h hs
      refine ⟨hs.keep, ?_⟩
      refine aT2 8 9 ?_ ?_
      ·obtain ⟨I, hs⟩ := hs.fO
       obtain ⟨hk, bk⟩ := hs.call tk0 (.c (qB d4) (.c (qK d0) .n))
       refine aA rfl (o_call H (fun _ m => mac_Tag.calls m hk) ?_)
       rintro t41 _ h H ⟨I, _, ⟨rfl, rfl, hl42⟩, hk⟩
       replace hs := bk hk ct0 rfl
       refine ⟨hs.keep, ?_⟩
       refine aO1 9 rfl (nA hs (List.map (Value.int .u8) (List.replicate 16 (0 : Int))) (.agg (List.map (Value.int .u8) (List.replicate 16 (0 : Int))).toArray) ?_)
       intro b43 h hs
       refine ⟨hs.keep, ?_⟩
       replace hs := hs.pk (.c d0 (.c d0 (.c d0 (.c d0 .n))))
       replace hs := bk0 hs ct4 rfl
       refine aOL 10 rfl (sAN (l2 := t41) hs (List.length_replicate (n := 16) (a := (0 : Int))) hl42 ?_)
       intro h hs
       refine aEnd ?_
       exact k_end ⟨t41, b43, I, H, ⟨by kernel_rfl, by kernel_rfl, by kernel_rfl, by kernel_rfl, trivial⟩, hl42, hs.pk (.c d4 (.c d4 (.c d0 .n)))⟩
      ·refine aA rfl (nA hs (List.map (Value.int .u8) (List.replicate 16 (0 : Int))) (.agg (List.map (Value.int .u8) (List.replicate 16 (0 : Int))).toArray) ?_)
       intro b44 h hs
       refine ⟨hs.keep, ?_⟩
       obtain ⟨I, hs⟩ := (hs.f d1).fO
       obtain ⟨hk, bk⟩ := hs.call tk0 (.c (qB d5) (.c (qK d0) .n))
       refine aO1 8 rfl (o_call H (fun _ m => mac_Tag.calls m hk) ?_)
       rintro t45 _ h H ⟨I, _, ⟨rfl, rfl, hl46⟩, hk⟩
       replace hs := bk hk ct0 rfl
       refine ⟨hs.keep, ?_⟩
       replace hs := hs.pk (.c d0 (.c d0 (.c d0 (.c d0 .n))))
       replace hs := bk0 hs ct4 rfl
       refine aOL 10 rfl (sAN (l2 := t45) (hs.f d1) (List.length_replicate (n := 16) (a := (0 : Int))) hl46 ?_)
       intro h hs
       refine aEnd ?_
       exact k_end ⟨t45, b44, I, H, ⟨by kernel_rfl, by kernel_rfl, by kernel_rfl, by kernel_rfl, trivial⟩, hl46, hs.pk (.c d4 (.c d4 (.c d0 .n)))⟩
     ·refine aA rfl (nA hs (List.map (Value.int .u8) (List.replicate 16 (0 : Int))) (.agg (List.map (Value.int .u8) (List.replicate 16 (0 : Int))).toArray) ?_)
      intro b47 h hs
      refine ⟨hs.keep, ?_⟩
      replace hs := hs.part d1 (lo := 0) (hi := (Int.tmod (w64 (x2)) (w64 ((x1.length : Int) + 1)))) (Int.le_refl 0) c35 c36
      replace hs := hs.part d2 (lo := (Int.tmod (w64 (x2)) (w64 ((x1.length : Int) + 1)))) (hi := (x1.length : Int)) c35 c36 (Int.le_refl _)
      refine aO1 7 rfl (nS (e := 22) hs .i (tSl (tInt .u8)) ([(sub x1 0 (Int.tmod (w64 (x2)) (w64 ((x1.length : Int) + 1)))), (sub x1 (Int.tmod (w64 (x2)) (w64 ((x1.length : Int) + 1))) (x1.length : Int))] : List (List Int)) [.slice (slA a25 p26 (Int.toNat (0 : Int)) 1) ((sub x1 0 (Int.tmod (w64 (x2)) (w64 ((x1.length : Int) + 1)))).length) (p26 - Int.toNat (0 : Int)), .slice (slA a25 p26 (Int.toNat (Int.tmod (w64 (x2)) (w64 ((x1.length : Int) + 1)))) 1) ((sub x1 (Int.tmod (w64 (x2)) (w64 ((x1.length : Int) + 1))) (x1.length : Int)).length) (p26 - Int.toNat (Int.tmod (w64 (x2)) (w64 ((x1.length : Int) + 1))))] 1 (.slice none 0 0) (Reps.cons (T := (tSl (tInt .u8))) (c := [.slice (slA a25 p26 (Int.toNat (0 : Int)) 1) ((sub x1 0 (Int.tmod (w64 (x2)) (w64 ((x1.length : Int) + 1)))).length) (p26 - Int.toNat (0 : Int))]) (x := (sub x1 0 (Int.tmod (w64 (x2)) (w64 ((x1.length : Int) + 1))))) ⟨_, _, _, rfl, (hs.g d1)⟩ (Reps.cons (T := (tSl (tInt .u8))) (c := [.slice (slA a25 p26 (Int.toNat (Int.tmod (w64 (x2)) (w64 ((x1.length : Int) + 1)))) 1) ((sub x1 (Int.tmod (w64 (x2)) (w64 ((x1.length : Int) + 1))) (x1.length : Int)).length) (p26 - Int.toNat (Int.tmod (w64 (x2)) (w64 ((x1.length : Int) + 1))))]) (x := (sub x1 (Int.tmod (w64 (x2)) (w64 ((x1.length : Int) + 1))) (x1.length : Int))) ⟨_, _, _, rfl, (hs.g d0)⟩ (.nil : Reps (tSl (tInt .u8)) (Cl.G .i E.B I) h [] []))) ?_)
      intro b50 h hs
      refine ⟨hs.keep, ?_⟩
      obtain ⟨I, hs⟩ := hs.fO
      obtain ⟨hk, bk⟩ := hs.call tk0 (.c (qB d5) (.c (qK d0) .n))
      refine aO1 8 rfl (o_call H (fun _ m => mac_Tag.calls m hk) ?_)
      rintro t52 _ h H ⟨I, _, ⟨rfl, rfl, hl53⟩, hk⟩
      replace hs := bk hk ct0 rfl
      refine ⟨hs.keep, ?_⟩
      replace hs := hs.pk (.c d0 (.c d0 (.c d0 (.c d0 .n))))
      replace hs := bk0 hs ct4 rfl
      refine aOL 10 rfl (sAN (l2 := t52) (hs.f d3) (List.length_replicate (n := 16) (a := (0 : Int))) hl53 ?_)
      intro h hs
      refine aEnd ?_
      exact k_end ⟨t52, b47, I, H, ⟨by kernel_rfl, by kernel_rfl, by kernel_rfl, by kernel_rfl, trivial⟩, hl53, hs.pk (.c d4 (.c d4 (.c d0 .n)))⟩
    ·clear H
     rintro ρ h ⟨x56, b54, I, H, hf, hl55, hs⟩
     refine k_fits _ hf ?_ rfl
     subst e76
     try dsimp only at H
     refine st 1 [] ?_
     obtain ⟨I, hs⟩ := (hs.f d2).fA hl55
     obtain ⟨hs0, bk0⟩ := hs.call tk0 (.c (qK d2) (.c (qB d1) (.c (qK d0) .n)))
     have hs := hs0
     refine k_regD hs0 21 ?_
     obtain ⟨c59, H⟩ := guard_pos H
     obtain ⟨c60, H⟩ := guard_pos H
     refine aRun [0, 1, 2] 18 hs.keep ?_
     refine aP 3 (.slice (slA a25 p26 (Int.toNat (0 : Int)) 1) ((sub x1 0 (Int.tmod (w64 (x2)) (w64 ((x1.length : Int) + 1)))).length) (p26 - Int.toNat (0 : Int))) rfl (pSh (e := 5) (k2 := .i64) (hs.sR d0) (Int.le_refl 0) c59 c60) hs.keep ?_
     refine aRun [4, 5] 15 hs.keep ?_
     refine aP 6 (.slice (slA a25 p26 (Int.toNat (Int.tmod (w64 (x2)) (w64 ((x1.length : Int) + 1)))) 1) ((sub x1 (Int.tmod (w64 (x2)) (w64 ((x1.length : Int) + 1))) (x1.length : Int)).length) (p26 - Int.toNat (Int.tmod (w64 (x2)) (w64 ((x1.length : Int) + 1))))) rfl (pSl (e := 5) (k1 := .i64) (hs.sR d0) c59 c60 (Int.le_refl _)) hs.keep ?_
     replace hs := hs.part d0 (lo := 0) (hi := (Int.tmod (w64 (x2)) (w64 ((x1.length : Int) + 1)))) (Int.le_refl 0) c59 c60
     replace hs := hs.part d1 (lo := (Int.tmod (w64 (x2)) (w64 ((x1.length : Int) + 1)))) (hi := (x1.length : Int)) c59 c60 (Int.le_refl _)
     refine aRun [9, 10] 12 hs.keep ?_
     refine aO1 7 rfl (nS (e := 22) hs .i (tSl (tInt .u8)) ([(sub x1 0 (Int.tmod (w64 (x2)) (w64 ((x1.length : Int) + 1)))), (sub x1 (Int.tmod (w64 (x2)) (w64 ((x1.length : Int) + 1))) (x1.length : Int))] : List (List Int)) [.slice (slA a25 p26 (Int.toNat (0 : Int)) 1) ((sub x1 0 (Int.tmod (w64 (x2)) (w64 ((x1.length : Int) + 1)))).length) (p26 - Int.toNat (0 : Int)), .slice (slA a25 p26 (Int.toNat (Int.tmod (w64 (x2)) (w64 ((x1.length : Int) + 1)))) 1) ((sub x1 (Int.tmod (w64 (x2)) (w64 ((x1.length : Int) + 1))) (x1.length : Int)).length) (p26 - Int.toNat (Int.tmod (w64 (x2)) (w64 ((x1.length : Int) + 1))))] 1 (.slice none 0 0) (Reps.cons (T := (tSl (tInt .u8))) (c := [.slice (slA a25 p26 (Int.toNat (0 : Int)) 1) ((sub x1 0 (Int.tmod (w64 (x2)) (w64 ((x1.length : Int) + 1)))).length) (p26 - Int.toNat (0 : Int))]) (x := (sub x1 0 (Int.tmod (w64 (x2)) (w64 ((x1.length : Int) + 1))))) ⟨_, _, _, rfl, (hs.g d1)⟩ (Reps.cons (T := (tSl (tInt .u8))) (c := [.slice (slA a25 p26 (Int.toNat (Int.tmod (w64 (x2)) (w64 ((x1.length : Int) + 1)))) 1) ((sub x1 (Int.tmod (w64 (x2)) (w64 ((x1.length : Int) + 1))) (x1.length : Int)).length) (p26 - Int.toNat (Int.tmod (w64 (x2)) (w64 ((x1.length : Int) + 1))))]) (x := (sub x1 (Int.tmod (w64 (x2)) (w64 ((x1.length : Int) + 1))) (x1.length : Int))) ⟨_, _, _, rfl, (hs.g d0)⟩ (.nil : Reps (tSl (tInt .u8)) (Cl.G .i E.B I) h [] []))) ?_)
     intro b63 h hs
     refine ⟨hs.keep, ?_⟩
     obtain ⟨I, hs⟩ := hs.fO
     obtain ⟨hk, bk⟩ := hs.call tk0 (.c (qB d4) (.c (qK d0) .n))
     refine aO1 8 rfl (o_call H (fun _ m => mac_Code.calls m hk) ?_)
     rintro t65 _ h H ⟨I, _, ⟨rfl, rfl, hl66⟩, hk⟩
     replace hs := bk hk ct0 rfl
     refine ⟨hs.keep, ?_⟩
     obtain ⟨hk, bk⟩ := hs.call tk0 (.c (qB d4) (.c (qI d3) .n))
     refine aO1 11 rfl (o_call H (fun _ m => shutterref02_Code.calls m hk) ?_)
     rintro t67 _ h H ⟨I, _, ⟨rfl, rfl, hl68⟩, hk⟩
     replace hs := bk hk ct0 rfl
     refine ⟨hs.keep, ?_⟩
     rcases bool_or (t65 == t67) with c69 | c69
     ·replace H := bif_f c69 H
      refine awp_runv 12 (.bool false) rfl (by kernel_rfl) (by kernel_rfl) (run_bool (run_eqAgg (xs := (List.map (Value.int .u8) t65).toArray) (ys := (List.map (Value.int .u8) t67).toArray) (by kernel_rfl) (by kernel_rfl) (by kernel_rfl) (fun w => run_equalIn_arr (d := 9998) (e := 5) (n := 32) (k := .u8) (l1 := t65) (l2 := t67) (by kernel_rfl) (by kernel_rfl) (by kernel_rfl) hl66 hl68)) c69) hs.keep ?_
      refine aRun [13, 14, 15, 16, 17, 18, 19, 20] 0 hs.keep ?_
      replace hs := hs.pk (.c d0 (.c d0 (.c d0 .n)))
      replace hs := bk0 hs ct3 rfl
      refine aEnd ?_
      refine k_retQ ?_
      obtain rfl := Option.some.inj H
      exact ⟨_, by kernel_rfl, I, _, ⟨rfl, rfl⟩, hs.pk .n⟩
     ·replace H := bif_t c69 H
      refine awp_runv 12 (.bool true) rfl (by kernel_rfl) (by kernel_rfl) (run_bool (run_eqAgg (xs := (List.map (Value.int .u8) t65).toArray) (ys := (List.map (Value.int .u8) t67).toArray) (by kernel_rfl) (by kernel_rfl) (by kernel_rfl) (fun w => run_equalIn_arr (d := 9998) (e := 5) (n := 32) (k := .u8) (l1 := t65) (l2 := t67) (by kernel_rfl) (by kernel_rfl) (by kernel_rfl) hl66 hl68)) c69) hs.keep ?_
      refine aRun [13, 14, 15, 16] 4 hs.keep ?_
      obtain ⟨hk, bk⟩ := hs.call tk0 (.c (qB d4) (.c (qI d3) .n))
      refine aO1 17 rfl (o_call H (fun _ m => shutterref02_Tag.calls m hk) ?_)
      rintro t70 _ h H ⟨I, _, ⟨a71, p72, n73, rfl, rfl⟩, hk⟩
      replace hs := bk hk ct1 rfl
      obtain rfl := hs.nO d0
      refine ⟨hs.keep, ?_⟩
      refine aO1 18 rfl (o_call H (fun _ m => shutterref01_Same.calls m (hs.sR d6) (hs.sO d0)) ?_)
      rintro t75 _ _ H ⟨rfl, rfl⟩
      refine ⟨hs.keep, ?_⟩
      refine aRun [19, 20] 0 hs.keep ?_
      replace hs := hs.pk (.c d0 (.c d0 (.c d0 (.c d0 .n))))
      replace hs := bk0 hs ct4 rfl
      refine aEnd ?_
      refine k_retQ ?_
      obtain rfl := Option.some.inj H
      exact ⟨_, by kernel_rfl, I, _, ⟨rfl, rfl⟩, hs.pk .n⟩

/-! shutter/shutterlaw02.MacEquals -/
def shutterlaw02_MacEquals.m (K : Nat) (x0 : (List Int)) (x1 : (List Int)) : Option Bool :=
  ((shutterlaw02_awake.m K).bind fun t29 => bif t29 then (if (x0.length : Int) > 300 then ((shutterlaw02_awake.m K).bind fun t31 => (some t31)) else (if (x1.length : Int) > 300 then ((shutterlaw02_awake.m K).bind fun t33 => (some t33)) else ((mac_Equal.m K x0 x1).bind fun t34 => ((shutterref01_Same.m K x0 x1).bind fun t35 => (bif (t34 == t35) then ((mac_Equal.m K x0 x0).bind fun t37 => (some t37)) else (some false)))))) else ((shutterlaw02_awake.m K).bind fun t38 => (some t38)))

theorem shutterlaw02_MacEquals.calls {B I : Gh} {h : Heap} {K : Nat} {x0 : (List Int)} {x1 : (List Int)} {a21 : Option Addr} {p22 : Nat} {n23 : Nat} {a25 : Option Addr} {p26 : Nat} {n27 : Nat} {r : Bool} (H : shutterlaw02_MacEquals.m K x0 x1 = some r)  :
    Fc Try.prog 4 #[.slice a21 n23 p22, .slice a25 n27 p26] [rR (tInt .u8) .b a21 p22 n23 x0, rR (tInt .u8) .b a25 p26 n27 x1] B I h (fun v L => v = .bool r ∧ L = []) := by
 refine fc_of fun E hs => ?_
 unfold shutterlaw02_MacEquals.m at H
 obtain rfl := hs.nR d0
 obtain rfl := hs.nR d1
 refine fn_of (args := [.slice a21 x0.length p22, .slice a25 x1.length p26]) (rs := [.tmp 4]) (N := 30) Try.func4 rfl rfl rfl rfl ?_
 obtain ⟨hk, bk⟩ := hs.call tk0 .n
 refine st 7 [] (k_call H (fun _ m => shutterlaw02_awake.calls m hk) ?_)
 rintro t29 _ h H ⟨I, _, ⟨rfl, rfl⟩, hk⟩
 replace hs := bk hk ct0 rfl
 cases t29
 ·rw [cond_false] at H
  obtain ⟨hk, bk⟩ := hs.call tk0 .n
  refine st 15 [true] (k_call H (fun _ m => shutterlaw02_awake.calls m hk) ?_)
  rintro t38 _ h H ⟨I, _, ⟨rfl, rfl⟩, hk⟩
  replace hs := bk hk ct0 rfl
  refine st 2 [] ?_
  refine k_retQ ?_
  obtain rfl := Option.some.inj H
  exact ⟨_, by kernel_rfl, I, _, ⟨rfl, rfl⟩, hs.pk .n⟩
 ·rw [cond_true] at H
  refine st 4 [] (k_ite H (fun c30 H => ?_) (fun c30 H => ?_))
  ·obtain ⟨hk, bk⟩ := hs.call tk0 .n
   refine st 10 [true] (k_call H (fun _ m => shutterlaw02_awake.calls m hk) ?_)
   rintro t31 _ h H ⟨I, _, ⟨rfl, rfl⟩, hk⟩
   replace hs := bk hk ct0 rfl
   refine st 2 [] ?_
   refine k_retQ ?_
   obtain rfl := Option.some.inj H
   exact ⟨_, by kernel_rfl, I, _, ⟨rfl, rfl⟩, hs.pk .n⟩
  ·refine st 4 [] (k_ite H (fun c32 H => ?_) (fun c32 H => ?_))
   ·obtain ⟨hk, bk⟩ := hs.call tk0 .n
    refine st 5 [true] (k_call H (fun _ m => shutterlaw02_awake.calls m hk) ?_)
    rintro t33 _ h H ⟨I, _, ⟨rfl, rfl⟩, hk⟩
    replace hs := bk hk ct0 rfl
    refine st 2 [] ?_
    refine k_retQ ?_
    obtain rfl := Option.some.inj H
    exact ⟨_, by kernel_rfl, I, _, ⟨rfl, rfl⟩, hs.pk .n⟩
   ·refine st 8 [false] (k_call H (fun _ m => mac_Equal.calls m (hs.sR d0) (hs.sR d1)) ?_)
    rintro t34 _ _ H ⟨rfl, rfl⟩
    refine st 2 [] (k_call H (fun _ m => shutterref01_Same.calls m (hs.sR d0) (hs.sR d1)) ?_)
    rintro t35 _ _ H ⟨rfl, rfl⟩
    refine k_if H (fun c36 H => ?_) (fun c36 H => ?_)
    ·refine st 3 [] (k_call H (fun _ m => mac_Equal.calls m (hs.sR d0) (hs.sR d0)) ?_)
     rintro t37 _ _ H ⟨rfl, rfl⟩
     refine st 3 [] ?_
     refine k_retQ ?_
     obtain rfl := Option.some.inj H
     exact ⟨_, by kernel_rfl, I, _, ⟨rfl, rfl⟩, hs.pk .n⟩
    ·refine st 7 [] ?_
     refine k_retQ ?_
     obtain rfl := Option.some.inj H
     exact ⟨_, by kernel_rfl, I, _, ⟨rfl, rfl⟩, hs.pk .n⟩

/-! shutter/shutterlaw02.MacKeys -/
def shutterlaw02_MacKeys.l1.m (K : Nat) (x1 : (List (List Int))) : Nat → (List Int) → Int → Option (Bool ⊕ ((List Int)))
  | 0, _, _ => none
  | k + 1, x34, x39 => (if x39 < (x1.length : Int) then (if 0 ≤ x39 then (if ((at_ x1 x39).length : Int) > 100 then (some (Sum.inl true)) else ((app x34 (at_ x1 x39)).bind fun l59 => (shutterlaw02_MacKeys.l1.m K x1 k l59 (w64 (x39 + 1))))) else none) else (some (Sum.inr x34)))
def shutterlaw02_MacKeys.m (K : Nat) (x0 : (List Int)) (x1 : (List (List Int))) : Option Bool :=
  ((shutterlaw02_awake.m K).bind fun t29 => bif t29 then (if (x0.length : Int) > 63 then ((shutterlaw02_awake.m K).bind fun t31 => (some t31)) else (if (x1.length : Int) > 20 then ((shutterlaw02_awake.m K).bind fun t33 => (some t33)) else ((shutterlaw02_MacKeys.l1.m K x1 K [] 0).bind fun s40 => match s40 with | .inl q => (some q) | .inr x41 => ((app [] x0).bind fun l66 => ((app l66 [0]).bind fun l73 => ((mac_Code.m K x0 x1).bind fun t78 => ((mac_Code.m K l73 [x41]).bind fun t82 => (bif (t78 == t82) then ((mac_Tag.m K x0 x1).bind fun t85 => ((mac_Tag.m K x0 [x41]).bind fun t89 => (some (t85 == t89)))) else (some false))))))))) else ((shutterlaw02_awake.m K).bind fun t91 => (some t91)))

theorem shutterlaw02_MacKeys.calls {B I : Gh} {h : Heap} {K : Nat} {x0 : (List Int)} {x1 : (List (List Int))} {a21 : Option Addr} {p22 : Nat} {n23 : Nat} {a25 : Option Addr} {p26 : Nat} {n27 : Nat} {r : Bool} (H : shutterlaw02_MacKeys.m K x0 x1 = some r)  :
    Fc Try.prog 5 #[.slice a21 n23 p22, .slice a25 n27 p26] [rR (tInt .u8) .b a21 p22 n23 x0, rR (tSl (tInt .u8)) .i a25 p26 n27 x1] B I h (fun v L => v = .bool r ∧ L = []) := by
 refine fc_of fun E hs => ?_
 unfold shutterlaw02_MacKeys.m at H
 obtain rfl := hs.nR d0
 obtain rfl := hs.nR d1
 refine fn_of (args := [.slice a21 x0.length p22, .slice a25 x1.length p26]) (rs := [.tmp 4]) (N := 62) Try.func5 rfl rfl rfl rfl ?_
 obtain ⟨hk, bk⟩ := hs.call tk0 .n
 refine st 7 [] (k_call H (fun _ m => shutterlaw02_awake.calls m hk) ?_)
 rintro t29 _ h H ⟨I, _, ⟨rfl, rfl⟩, hk⟩
 replace hs := bk hk ct0 rfl
 cases t29
 ·rw [cond_false] at H
  obtain ⟨hk, bk⟩ := hs.call tk0 .n
  refine st 15 [true] (k_call H (fun _ m => shutterlaw02_awake.calls m hk) ?_)
  rintro t91 _ h H ⟨I, _, ⟨rfl, rfl⟩, hk⟩
  replace hs := bk hk ct0 rfl
  refine st 2 [] ?_
  refine k_retQ ?_
  obtain rfl := Option.some.inj H
  exact ⟨_, by kernel_rfl, I, _, ⟨rfl, rfl⟩, hs.pk .n⟩
 ·rw [cond_true] at H
  refine st 4 [] (k_ite H (fun c30 H => ?_) (fun c30 H => ?_))
  ·obtain ⟨hk, bk⟩ := hs.call tk0 .n
   refine st 10 [true] (k_call H (fun _ m => shutterlaw02_awake.calls m hk) ?_)
   rintro t31 _ h H ⟨I, _, ⟨rfl, rfl⟩, hk⟩
   replace hs := bk hk ct0 rfl
   refine st 2 [] ?_
   refine k_retQ ?_
   obtain rfl := Option.some.inj H
   exact ⟨_, by kernel_rfl, I, _, ⟨rfl, rfl⟩, hs.pk .n⟩
  ·refine st 4 [] (k_ite H (fun c32 H => ?_) (fun c32 H => ?_))
   ·obtain ⟨hk, bk⟩ := hs.call tk0 .n
    refine st 5 [true] (k_call H (fun _ m => shutterlaw02_awake.calls m hk) ?_)
    rintro t33 _ h H ⟨I, _, ⟨rfl, rfl⟩, hk⟩
    replace hs := bk hk ct0 rfl
    refine st 2 [] ?_
    refine k_retQ ?_
    obtain rfl := Option.some.inj H
    exact ⟨_, by kernel_rfl, I, _, ⟨rfl, rfl⟩, hs.pk .n⟩
   ·refine st 14 [false] ?_
    obtain ⟨s40, m47, HR46⟩ := bind_some H
    refine k_loop 0 (fun k' ρ h => ∃ (x34 : List Int) (x39 : Int) (a35 : Option Addr) (p36 : Nat) (n37 : Nat) (I : Gh), shutterlaw02_MacKeys.l1.m K x1 k' x34 x39 = some s40 ∧ Fits [(0, .slice a21 x0.length p22), (1, .slice a25 x1.length p26), (5, .slice a35 n37 p36), (6, .int .i64 x39)] ρ ∧ St E [rR (tInt .u8) .b a21 p22 x0.length x0, rR (tSl (tInt .u8)) .i a25 p26 x1.length x1, rO (tInt .u8) .i a35 p36 n37 x34] I h) (fun ρ h => ∃ (x41 : List Int) (a42 : Option Addr) (p43 : Nat) (n44 : Nat) (I : Gh), Sum.inr x41 = s40 ∧ Fits [(0, .slice a21 x0.length p22), (1, .slice a25 x1.length p26), (5, .slice a42 n44 p43)] ρ ∧ St E [rR (tInt .u8) .b a21 p22 x0.length x0, rR (tSl (tInt .u8)) .i a25 p26 x1.length x1, rO (tInt .u8) .i a42 p43 n44 x41] I h) K ⟨[], 0, none, 0, 0, I, m47, ⟨by kernel_rfl, by kernel_rfl, by kernel_rfl, by kernel_rfl, trivial⟩, hs.pk (.c d0 (.c d0 (.f imON .n)))⟩ ?_ rfl ?_
    ·clear m47 H
     rintro k' ρ h ⟨x34, x39, a35, p36, n37, I, H, hf, hs⟩
     cases k' with
     | zero => cases H
     | succ k =>
      rw [shutterlaw02_MacKeys.l1.m] at H
      refine k_fits _ hf ?_ rfl
      obtain rfl := hs.nO d2
      refine st 6 [] (k_ite H (fun c48 H => ?_) (fun c48 H => ?_))
      ·obtain ⟨c49, H⟩ := guard_pos H
       refine st 10 [true] (k_val (elemPtr a25 (x39.toNat * 1)) (pI (e := 22) (ik := .i64) (hs.sR d1) c49 c48) ?_)
       obtain ⟨y51, g50, q52⟩ := (hs.sR d1).toSl.seg c49 c48
       obtain ⟨a53, p54, n55, rfl, q57⟩ := rep_sl q52
       obtain rfl := q57.2
       replace hs := hs.pR q57
       refine k_op (lC (seg_cell (f := 0) g50 rfl) ?_)
       refine st 1 [] (k_ite H (fun c58 H => ?_) (fun c58 H => ?_))
       ·refine st 6 [true] ?_
        refine k_retQ (krL ?_)
        obtain rfl := Option.some.inj H
        obtain rfl := Option.some.inj HR46
        exact ⟨_, by kernel_rfl, I, _, ⟨rfl, rfl⟩, hs.pk .n⟩
       ·refine st 7 [false] (k_val (elemPtr a25 (x39.toNat * 1)) (pI (e := 22) (ik := .i64) (hs.sR d2) c49 c48) ?_)
        refine k_op (lC (seg_cell (f := 0) g50 rfl) ?_)
        replace hs := (hs.f d3)
        obtain ⟨l59, m60, H⟩ := bind_some H
        refine k_op (aO (e := 5) (bytes := 1) hs (hs.sR d1) m60 ?_)
        intro a61 p62 h hs
        refine st 8 [] ?_
        exact k_endL ⟨k, Nat.lt_succ_self _, l59, (w64 (x39 + 1)), a61, p62, l59.length, I, H, ⟨by kernel_rfl, by kernel_rfl, by kernel_rfl, by kernel_rfl, trivial⟩, hs.pk (.c d2 (.c d2 (.c d0 .n)))⟩
      ·refine st 2 [false] ?_
       refine k_out rfl ?_
       obtain rfl := Option.some.inj H
       exact xE ⟨x34, a35, p36, x34.length, I, rfl, ⟨by kernel_rfl, by kernel_rfl, by kernel_rfl, trivial⟩, hs.pk (.c d0 (.c d0 (.c d0 .n)))⟩
    ·rintro ρ h ⟨x41, a42, p43, n44, I, rfl, hf, hs⟩
     have H := HR46
     try dsimp only at H
     refine k_fits _ hf ?_ rfl
     obtain rfl := hs.nO d2
     refine st 2 [] (k_op (nS (e := 5) hs .i (tInt .u8) ([] : List Int) [] 1 (.int .u8 0) (Reps.int (I := (Cl.G .i E.B I)) (k := .u8) (l := [])) ?_))
     intro b64 h hs
     obtain ⟨l66, m67, H⟩ := bind_some H
     refine st 1 [] (k_op (aO (e := 5) (bytes := 1) hs ((hs.sR d1).flat flat_int) m67 ?_))
     intro a68 p69 h hs
     refine k_op (nS (e := 5) hs .i (tInt .u8) ([0] : List Int) [.int .u8 0] 1 (.int .u8 0) (Reps.int (I := (Cl.G .i E.B I)) (k := .u8) (l := [0])) ?_)
     intro b71 h hs
     replace hs := (hs.f d1)
     obtain ⟨l73, m74, H⟩ := bind_some H
     refine k_op (aO (e := 5) (bytes := 1) hs (hs.sO d1) m74 ?_)
     intro a75 p76 h hs
     obtain ⟨hk, bk⟩ := hs.call tk0 (.c (qB d2) (.c (qK d3) .n))
     refine st 6 [] (k_call H (fun _ m => mac_Code.calls m hk) ?_)
     rintro t78 _ h H ⟨I, _, ⟨rfl, rfl, hl79⟩, hk⟩
     replace hs := bk hk ct0 rfl
     obtain ⟨I, hs⟩ := (hs.f d4).fO
     refine st 2 [] (k_op (nS (e := 22) hs .i (tSl (tInt .u8)) ([x41] : List (List Int)) [.slice a42 x41.length p43] 1 (.slice none 0 0) (Reps.cons (T := (tSl (tInt .u8))) (c := [.slice a42 x41.length p43]) (x := x41) ⟨_, _, _, rfl, (hs.g d0)⟩ (.nil : Reps (tSl (tInt .u8)) (Cl.G .i E.B I) h [] [])) ?_))
     intro b80 h hs
     obtain ⟨I, hs⟩ := hs.fO
     obtain ⟨hk, bk⟩ := hs.call tk0 (.c (qO d2) (.c (qK d0) .n))
     refine k_call H (fun _ m => mac_Code.calls m hk) ?_
     rintro t82 _ h H ⟨I, _, ⟨rfl, rfl, hl83⟩, hk⟩
     replace hs := bk hk ct0 rfl
     rcases bool_or (t78 == t82) with c84 | c84
     ·replace H := bif_f c84 H
      refine k_op (owp_run (.bool false) (run_bool (run_eqAgg (xs := (List.map (Value.int .u8) t78).toArray) (ys := (List.map (Value.int .u8) t82).toArray) (by kernel_rfl) (by kernel_rfl) (by kernel_rfl) (fun w => run_equalIn_arr (d := 9998) (e := 5) (n := 32) (k := .u8) (l1 := t78) (l2 := t82) (by kernel_rfl) (by kernel_rfl) (by kernel_rfl) hl79 hl83)) c84) ?_)
      refine st 12 [] ?_
      refine k_retQ ?_
      obtain rfl := Option.some.inj H
      exact ⟨_, by kernel_rfl, I, _, ⟨rfl, rfl⟩, hs.pk .n⟩
     ·replace H := bif_t c84 H
      refine k_op (owp_run (.bool true) (run_bool (run_eqAgg (xs := (List.map (Value.int .u8) t78).toArray) (ys := (List.map (Value.int .u8) t82).toArray) (by kernel_rfl) (by kernel_rfl) (by kernel_rfl) (fun w => run_equalIn_arr (d := 9998) (e := 5) (n := 32) (k := .u8) (l1 := t78) (l2 := t82) (by kernel_rfl) (by kernel_rfl) (by kernel_rfl) hl79 hl83)) c84) ?_)
      obtain ⟨hk, bk⟩ := hs.call tk0 (.c (qB d4) (.c (qK d5) .n))
      refine st 3 [] (k_call H (fun _ m => mac_Tag.calls m hk) ?_)
      rintro t85 _ h H ⟨I, _, ⟨rfl, rfl, hl86⟩, hk⟩
      replace hs := bk hk ct0 rfl
      refine st 2 [] (k_op (nS (e := 22) hs .i (tSl (tInt .u8)) ([x41] : List (List Int)) [.slice a42 x41.length p43] 1 (.slice none 0 0) (Reps.cons (T := (tSl (tInt .u8))) (c := [.slice a42 x41.length p43]) (x := x41) ⟨_, _, _, rfl, (hs.g d1)⟩ (.nil : Reps (tSl (tInt .u8)) (Cl.G .i E.B I) h [] [])) ?_))
      intro b87 h hs
      obtain ⟨I, hs⟩ := hs.fO
      obtain ⟨hk, bk⟩ := hs.call tk0 (.c (qB d5) (.c (qK d0) .n))
      refine k_call H (fun _ m => mac_Tag.calls m hk) ?_
      rintro t89 _ h H ⟨I, _, ⟨rfl, rfl, hl90⟩, hk⟩
      replace hs := bk hk ct0 rfl
      refine k_op (owp_run (.bool (t85 == t89)) (run_eqAgg (xs := (List.map (Value.int .u8) t85).toArray) (ys := (List.map (Value.int .u8) t89).toArray) (by kernel_rfl) (by kernel_rfl) (by kernel_rfl) (fun w => run_equalIn_arr (d := 9998) (e := 5) (n := 16) (k := .u8) (l1 := t85) (l2 := t89) (by kernel_rfl) (by kernel_rfl) (by kernel_rfl) hl86 hl90)) ?_)
      refine st 3 [] ?_
      refine k_retQ ?_
      obtain rfl := Option.some.inj H
      exact ⟨_, by kernel_rfl, I, _, ⟨rfl, rfl⟩, hs.pk .n⟩

/-! shutter/shutterlaw02.MacKeeps -/
def shutterlaw02_MacKeeps.m (K : Nat) (x0 : (List Int)) (x1 : (List Int)) : Option Bool :=
  ((shutterlaw02_awake.m K).bind fun t29 => bif t29 then (if (x0.length : Int) > 200 then ((shutterlaw02_awake.m K).bind fun t31 => (some t31)) else (if (x1.length : Int) > 300 then ((shutterlaw02_awake.m K).bind fun t33 => (some t33)) else ((app [] x0).bind fun l36 => ((app [] x1).bind fun l43 => ((mac_Code.m K l36 ([l43, [], l43])).bind fun t50 => ((mac_Code.m K l36 ([l43, [], l43])).bind fun t53 => (bif (t50 == t53) then (if (3 : Int) = 3 then ((shutterref01_Same.m K l36 x0).bind fun t58 => bif t58 then ((shutterref01_Same.m K l43 x1).bind fun t59 => bif t59 then (if 1 < (([l43, [], l43]).length : Int) then (some (((at_ ([l43, [], l43]) 1).length : Int) == 0)) else none) else (some false)) else (some false)) else (some false)) else (some false)))))))) else ((shutterlaw02_awake.m K).bind fun t69 => (some t69)))

theorem shutterlaw02_MacKeeps.calls {B I : Gh} {h : Heap} {K : Nat} {x0 : (List Int)} {x1 : (List Int)} {a21 : Option Addr} {p22 : Nat} {n23 : Nat} {a25 : Option Addr} {p26 : Nat} {n27 : Nat} {r : Bool} (H : shutterlaw02_MacKeeps.m K x0 x1 = some r)  :
    Fc Try.prog 6 #[.slice a21 n23 p22, .slice a25 n27 p26] [rR (tInt .u8) .b a21 p22 n23 x0, rR (tInt .u8) .b a25 p26 n27 x1] B I h (fun v L => v = .bool r ∧ L = []) := by
 refine fc_of fun E hs => ?_
 unfold shutterlaw02_MacKeeps.m at H
 obtain rfl := hs.nR d0
 obtain rfl := hs.nR d1
 refine fn_of (args := [.slice a21 x0.length p22, .slice a25 x1.length p26]) (rs := [.tmp 4]) (N := 63) Try.func6 rfl rfl rfl rfl ?_
 obtain ⟨hk, bk⟩ := hs.call tk0 .n
 refine st 7 [] (k_call H (fun _ m => shutterlaw02_awake.calls m hk) ?_)
 rintro t29 _ h H ⟨I, _, ⟨rfl, rfl⟩, hk⟩
 replace hs := bk hk ct0 rfl
 cases t29
 ·rw [cond_false] at H
  obtain ⟨hk, bk⟩ := hs.call tk0 .n
  refine st 15 [true] (k_call H (fun _ m => shutterlaw02_awake.calls m hk) ?_)
  rintro t69 _ h H ⟨I, _, ⟨rfl, rfl⟩, hk⟩
  replace hs := bk hk ct0 rfl
  refine st 2 [] ?_
  refine k_retQ ?_
  obtain rfl := Option.some.inj H
  exact ⟨_, by kernel_rfl, I, _, ⟨rfl, rfl⟩, hs.pk .n⟩
 ·rw [cond_true] at H
  refine st 4 [] (k_ite H (fun c30 H => ?_) (fun c30 H => ?_))
  ·obtain ⟨hk, bk⟩ := hs.call tk0 .n
   refine st 10 [true] (k_call H (fun _ m => shutterlaw02_awake.calls m hk) ?_)
   rintro t31 _ h H ⟨I, _, ⟨rfl, rfl⟩, hk⟩
   replace hs := bk hk ct0 rfl
   refine st 2 [] ?_
   refine k_retQ ?_
   obtain rfl := Option.some.inj H
   exact ⟨_, by kernel_rfl, I, _, ⟨rfl, rfl⟩, hs.pk .n⟩
  ·refine st 4 [] (k_ite H (fun c32 H => ?_) (fun c32 H => ?_))
   ·obtain ⟨hk, bk⟩ := hs.call tk0 .n
    refine st 5 [true] (k_call H (fun _ m => shutterlaw02_awake.calls m hk) ?_)
    rintro t33 _ h H ⟨I, _, ⟨rfl, rfl⟩, hk⟩
    replace hs := bk hk ct0 rfl
    refine st 2 [] ?_
    refine k_retQ ?_
    obtain rfl := Option.some.inj H
    exact ⟨_, by kernel_rfl, I, _, ⟨rfl, rfl⟩, hs.pk .n⟩
   ·refine st 6 [false] (k_op (nS (e := 5) hs .i (tInt .u8) ([] : List Int) [] 1 (.int .u8 0) (Reps.int (I := (Cl.G .i E.B I)) (k := .u8) (l := [])) ?_))
    intro b34 h hs
    obtain ⟨l36, m37, H⟩ := bind_some H
    refine st 1 [] (k_op (aO (e := 5) (bytes := 1) hs ((hs.sR d1).flat flat_int) m37 ?_))
    intro a38 p39 h hs
    refine st 4 [] (k_op (nS (e := 5) hs .i (tInt .u8) ([] : List Int) [] 1 (.int .u8 0) (Reps.int (I := (Cl.G .i E.B I)) (k := .u8) (l := [])) ?_))
    intro b41 h hs
    obtain ⟨l43, m44, H⟩ := bind_some H
    refine st 1 [] (k_op (aO (e := 5) (bytes := 1) hs ((hs.sR d3).flat flat_int) m44 ?_))
    intro a45 p46 h hs
    obtain ⟨I, hs⟩ := hs.fO
    refine st 6 [] (k_op (nS (e := 22) hs .i (tSl (tInt .u8)) ([l43, [], l43] : List (List Int)) [.slice a45 l43.length p46, .slice none 0 0, .slice a45 l43.length p46] 1 (.slice none 0 0) (Reps.cons (T := (tSl (tInt .u8))) (c := [.slice a45 l43.length p46]) (x := l43) ⟨_, _, _, rfl, (hs.g d0)⟩ (Reps.cons (T := (tSl (tInt .u8))) (c := [.slice none 0 0]) (x := []) ⟨_, _, _, rfl, ⟨rd_nil _ _ _, rfl⟩⟩ (Reps.cons (T := (tSl (tInt .u8))) (c := [.slice a45 l43.length p46]) (x := l43) ⟨_, _, _, rfl, (hs.g d0)⟩ (.nil : Reps (tSl (tInt .u8)) (Cl.G .i E.B I) h [] [])))) ?_))
    intro b48 h hs
    obtain ⟨I, hs⟩ := hs.fO
    obtain ⟨hk, bk⟩ := hs.call tk0 (.c (qO d2) (.c (qK d0) .n))
    refine st 6 [] (k_call H (fun _ m => mac_Code.calls m hk) ?_)
    rintro t50 _ h H ⟨I, _, ⟨rfl, rfl, hl51⟩, hk⟩
    replace hs := bk hk ct0 rfl
    refine k_op (nA hs (List.map (Value.int .u8) (List.replicate 32 (0 : Int))) (.agg (List.map (Value.int .u8) (List.replicate 32 (0 : Int))).toArray) ?_)
    intro b52 h hs
    refine k_op (sAN (l2 := t50) hs (List.length_replicate (n := 32) (a := (0 : Int))) hl51 ?_)
    intro h hs
    obtain ⟨hk, bk⟩ := hs.call tk0 (.c (qO d3) (.c (qK d1) .n))
    refine st 5 [] (k_call H (fun _ m => mac_Code.calls m hk) ?_)
    rintro t53 _ h H ⟨I, _, ⟨rfl, rfl, hl54⟩, hk⟩
    replace hs := bk hk ct0 rfl
    refine k_op (nA hs (List.map (Value.int .u8) (List.replicate 32 (0 : Int))) (.agg (List.map (Value.int .u8) (List.replicate 32 (0 : Int))).toArray) ?_)
    intro b55 h hs
    refine k_op (sAN (l2 := t53) hs (List.length_replicate (n := 32) (a := (0 : Int))) hl54 ?_)
    intro h hs
    refine st 3 [] (k_op (lG ((hs.bl d1).arrSeg hl51) ?_))
    refine k_op (lG ((hs.bl d0).arrSeg hl54) ?_)
    rcases bool_or (t50 == t53) with c56 | c56
    ·replace H := bif_f c56 H
     refine k_op (owp_run (.bool false) (run_bool (run_eqAgg (xs := (List.map (Value.int .u8) t50).toArray) (ys := (List.map (Value.int .u8) t53).toArray) (by kernel_rfl) (by kernel_rfl) (by kernel_rfl) (fun w => run_equalIn_arr (d := 9998) (e := 5) (n := 32) (k := .u8) (l1 := t50) (l2 := t53) (by kernel_rfl) (by kernel_rfl) (by kernel_rfl) hl51 hl54)) c56) ?_)
     refine st 24 [] ?_
     refine k_retQ ?_
     obtain rfl := Option.some.inj H
     exact ⟨_, by kernel_rfl, I, _, ⟨rfl, rfl⟩, hs.pk .n⟩
    ·replace H := bif_t c56 H
     refine k_op (owp_run (.bool true) (run_bool (run_eqAgg (xs := (List.map (Value.int .u8) t50).toArray) (ys := (List.map (Value.int .u8) t53).toArray) (by kernel_rfl) (by kernel_rfl) (by kernel_rfl) (fun w => run_equalIn_arr (d := 9998) (e := 5) (n := 32) (k := .u8) (l1 := t50) (l2 := t53) (by kernel_rfl) (by kernel_rfl) (by kernel_rfl) hl51 hl54)) c56) ?_)
     refine st 3 [] (k_ite H (fun c57 H => ?_) (fun c57 H => ?_))
     ·refine st 4 [] (k_call H (fun _ m => shutterref01_Same.calls m ((hs.sO d4)).up1 (hs.sR d5)) ?_)
      rintro t58 _ _ H ⟨rfl, rfl⟩
      cases t58
      ·rw [cond_false] at H
       refine st 15 [] ?_
       refine k_retQ ?_
       obtain rfl := Option.some.inj H
       exact ⟨_, by kernel_rfl, I, _, ⟨rfl, rfl⟩, hs.pk .n⟩
      ·rw [cond_true] at H
       refine st 4 [] (k_call H (fun _ m => shutterref01_Same.calls m ((hs.sR d3)).up1 (hs.sR d6)) ?_)
       rintro t59 _ _ H ⟨rfl, rfl⟩
       cases t59
       ·rw [cond_false] at H
        refine st 10 [] ?_
        refine k_retQ ?_
        obtain rfl := Option.some.inj H
        exact ⟨_, by kernel_rfl, I, _, ⟨rfl, rfl⟩, hs.pk .n⟩
       ·rw [cond_true] at H
        obtain ⟨c60, H⟩ := guard_pos H
        refine st 3 [] (k_val (elemPtr (some ⟨b48, 0, none⟩) ((1 : Int).toNat * 1)) (pI (e := 22) (ik := .i64) (hs.sR d2) (by decide) c60) ?_)
        obtain ⟨y62, g61, q63⟩ := (hs.sR d2).toSl.seg (by decide) c60
        obtain ⟨a64, p65, n66, rfl, q68⟩ := rep_sl q63
        obtain rfl := q68.2
        replace hs := hs.pR q68
        refine k_op (lC (seg_cell (f := 0) g61 rfl) ?_)
        refine st 5 [] ?_
        refine k_retQ ?_
        obtain rfl := Option.some.inj H
        exact ⟨_, by kernel_rfl, I, _, ⟨rfl, rfl⟩, hs.pk .n⟩
     ·refine st 20 [] ?_
      refine k_retQ ?_
      obtain rfl := Option.some.inj H
      exact ⟨_, by kernel_rfl, I, _, ⟨rfl, rfl⟩, hs.pk .n⟩

/-! shutter/shutterlaw02.MacLong -/
def shutterlaw02_MacLong.l1.m (K : Nat) (x1 : Int) : Nat → (List Int) → Option ((List Int))
  | 0, _ => none
  | k + 1, x41 => (if (x41.length : Int) < (w64 (65 + (w64 ((Int.tmod x1 20))))) then ((app x41 [x1]).bind fun l57 => (shutterlaw02_MacLong.l1.m K x1 k l57)) else (some (x41)))
def shutterlaw02_MacLong.m (K : Nat) (x0 : (List Int)) (x1 : Int) (x2 : (List Int)) : Option Bool :=
  ((shutterlaw02_awake.m K).bind fun t29 => bif t29 then (if (x0.length : Int) > 100 then ((shutterlaw02_awake.m K).bind fun t31 => (some t31)) else (if (x2.length : Int) > 300 then ((shutterlaw02_awake.m K).bind fun t33 => (some t33)) else ((app [] x0).bind fun l36 => ((shutterlaw02_MacLong.l1.m K x1 K l36).bind fun x47 => ((shutterref01_Of.m K x47).bind fun t62 => ((mac_Code.m K x47 [x2]).bind fun t68 => ((mac_Code.m K t62 [x2]).bind fun t72 => (bif (t68 == t72) then ((mac_Tag.m K x47 [x2]).bind fun t77 => ((mac_Tag.m K t62 [x2]).bind fun t81 => (some (t77 == t81)))) else (some false))))))))) else ((shutterlaw02_awake.m K).bind fun t157 => (some t157)))

theorem shutterlaw02_MacLong.calls {B I : Gh} {h : Heap} {K : Nat} {x0 : (List Int)} {x1 : Int} {x2 : (List Int)} {a21 : Option Addr} {p22 : Nat} {n23 : Nat} {a25 : Option Addr} {p26 : Nat} {n27 : Nat} {r : Bool} (H : shutterlaw02_MacLong.m K x0 x1 x2 = some r)  :
    Fc Try.prog 7 #[.slice a21 n23 p22, .int .u8 x1, .slice a25 n27 p26] [rR (tInt .u8) .b a21 p22 n23 x0, rR (tInt .u8) .i a25 p26 n27 x2] B I h (fun v L => v = .bool r ∧ L = []) := by
 refine fc_of fun E hs => ?_
 unfold shutterlaw02_MacLong.m at H
 obtain rfl := hs.nR d0
 obtain rfl := hs.nR d1
 refine fn_of (args := [.slice a21 x0.length p22, .int .u8 x1, .slice a25 x2.length p26]) (rs := [.tmp 6]) (N := 58) Try.func7 rfl rfl rfl rfl ?_
 obtain ⟨hk, bk⟩ := hs.call tk0 .n
 refine st 7 [] (k_call H (fun _ m => shutterlaw02_awake.calls m hk) ?_)
 rintro t29 _ h H ⟨I, _, ⟨rfl, rfl⟩, hk⟩
 replace hs := bk hk ct0 rfl
 cases t29
 ·rw [cond_false] at H
  obtain ⟨hk, bk⟩ := hs.call tk0 .n
  refine st 15 [true] (k_call H (fun _ m => shutterlaw02_awake.calls m hk) ?_)
  rintro t157 _ h H ⟨I, _, ⟨rfl, rfl⟩, hk⟩
  replace hs := bk hk ct0 rfl
  refine st 2 [] ?_
  refine k_retQ ?_
  obtain rfl := Option.some.inj H
  exact ⟨_, by kernel_rfl, I, _, ⟨rfl, rfl⟩, hs.pk .n⟩
 ·rw [cond_true] at H
  refine st 4 [] (k_ite H (fun c30 H => ?_) (fun c30 H => ?_))
  ·obtain ⟨hk, bk⟩ := hs.call tk0 .n
   refine st 10 [true] (k_call H (fun _ m => shutterlaw02_awake.calls m hk) ?_)
   rintro t31 _ h H ⟨I, _, ⟨rfl, rfl⟩, hk⟩
   replace hs := bk hk ct0 rfl
   refine st 2 [] ?_
   refine k_retQ ?_
   obtain rfl := Option.some.inj H
   exact ⟨_, by kernel_rfl, I, _, ⟨rfl, rfl⟩, hs.pk .n⟩
  ·refine st 4 [] (k_ite H (fun c32 H => ?_) (fun c32 H => ?_))
   ·obtain ⟨hk, bk⟩ := hs.call tk0 .n
    refine st 5 [true] (k_call H (fun _ m => shutterlaw02_awake.calls m hk) ?_)
    rintro t33 _ h H ⟨I, _, ⟨rfl, rfl⟩, hk⟩
    replace hs := bk hk ct0 rfl
    refine st 2 [] ?_
    refine k_retQ ?_
    obtain rfl := Option.some.inj H
    exact ⟨_, by kernel_rfl, I, _, ⟨rfl, rfl⟩, hs.pk .n⟩
   ·refine st 6 [false] (k_op (nS (e := 5) hs .i (tInt .u8) ([] : List Int) [] 1 (.int .u8 0) (Reps.int (I := (Cl.G .i E.B I)) (k := .u8) (l := [])) ?_))
    intro b34 h hs
    obtain ⟨l36, m37, H⟩ := bind_some H
    refine st 1 [] (k_op (aO (e := 5) (bytes := 1) hs ((hs.sR d1).flat flat_int) m37 ?_))
    intro a38 p39 h hs
    refine st 4 [] ?_
    obtain ⟨s46, m53, HR52⟩ := bind_some H
    refine k_loop 0 (fun k' ρ h => ∃ (x41 : List Int) (a42 : Option Addr) (p43 : Nat) (n44 : Nat) (I : Gh), shutterlaw02_MacLong.l1.m K x1 k' x41 = some s46 ∧ Fits [(1, .int .u8 x1), (2, .slice a25 x2.length p26), (7, .slice a42 n44 p43)] ρ ∧ St E [rR (tInt .u8) .i a25 p26 x2.length x2, rO (tInt .u8) .i a42 p43 n44 x41] I h) (fun ρ h => ∃ (x47 : List Int) (a48 : Option Addr) (p49 : Nat) (n50 : Nat) (I : Gh), x47 = s46 ∧ Fits [(2, .slice a25 x2.length p26), (7, .slice a48 n50 p49)] ρ ∧ St E [rR (tInt .u8) .i a25 p26 x2.length x2, rO (tInt .u8) .i a48 p49 n50 x47] I h) K ⟨l36, a38, p39, l36.length, I, m53, ⟨by kernel_rfl, by kernel_rfl, by kernel_rfl, trivial⟩, hs.pk (.c d2 (.c d0 .n))⟩ ?_ rfl ?_
    ·clear HR52 m53 H
     rintro k' ρ h ⟨x41, a42, p43, n44, I, H, hf, hs⟩
     cases k' with
     | zero => cases H
     | succ k =>
      rw [shutterlaw02_MacLong.l1.m] at H
      refine k_fits _ hf ?_ rfl
      obtain rfl := hs.nO d1
      refine st 9 [] (k_ite H (fun c54 H => ?_) (fun c54 H => ?_))
      ·refine st 7 [true] (k_op (nS (e := 5) hs .i (tInt .u8) ([x1] : List Int) [.int .u8 x1] 1 (.int .u8 0) (Reps.int (I := (Cl.G .i E.B I)) (k := .u8) (l := [x1])) ?_))
       intro b55 h hs
       replace hs := (hs.f d2)
       obtain ⟨l57, m58, H⟩ := bind_some H
       refine k_op (aO (e := 5) (bytes := 1) hs (hs.sO d1) m58 ?_)
       intro a59 p60 h hs
       refine st 3 [] ?_
       exact k_endL ⟨k, Nat.lt_succ_self _, l57, a59, p60, l57.length, I, H, ⟨by kernel_rfl, by kernel_rfl, by kernel_rfl, trivial⟩, hs.pk (.c d2 (.c d0 .n))⟩
      ·refine st 2 [false] ?_
       refine k_out rfl ?_
       obtain rfl := Option.some.inj H
       exact xE ⟨x41, a42, p43, x41.length, I, rfl, ⟨by kernel_rfl, by kernel_rfl, trivial⟩, hs.pk (.c d0 (.c d0 .n))⟩
    ·rintro ρ h ⟨x47, a48, p49, n50, I, rfl, hf, hs⟩
     have H := HR52
     try dsimp only at H
     refine k_fits _ hf ?_ rfl
     obtain rfl := hs.nO d1
     obtain ⟨hk, bk⟩ := hs.call tk0 (.c (qO d1) .n)
     refine st 3 [] (k_call H (fun _ m => shutterref01_Of.calls m hk) ?_)
     rintro t62 _ h H ⟨I, _, ⟨rfl, rfl, hl63⟩, hk⟩
     replace hs := bk hk ct0 rfl
     refine k_op (nA hs (List.map (Value.int .u8) (List.replicate 32 (0 : Int))) (.agg (List.map (Value.int .u8) (List.replicate 32 (0 : Int))).toArray) ?_)
     intro b64 h hs
     refine k_op (sAN (l2 := t62) hs (List.length_replicate (n := 32) (a := (0 : Int))) hl63 ?_)
     intro h hs
     refine st 2 [] ?_
     obtain ⟨I, hs⟩ := hs.fA hl63
     obtain ⟨hs0, bk0⟩ := hs.call tk0 (.c (qK d0) (.c (qK d1) (.c (qO d2) .n)))
     have hs := hs0
     refine k_regD hs0 21 ?_
     refine aRun [0, 1, 4, 5] 17 hs.keep ?_
     refine aT2 2 6 ?_ ?_
     ·refine aA rfl (nS (e := 22) hs .i (tSl (tInt .u8)) ([x2] : List (List Int)) [.slice a25 x2.length p26] 1 (.slice none 0 0) (Reps.cons (T := (tSl (tInt .u8))) (c := [.slice a25 x2.length p26]) (x := x2) ⟨_, _, _, rfl, (hs.g d1)⟩ (.nil : Reps (tSl (tInt .u8)) (Cl.G .i E.B I) h [] [])) ?_)
      intro b66 h hs
      refine ⟨hs.keep, ?_⟩
      refine aT2 3 6 ?_ ?_
      ·obtain ⟨I, hs⟩ := hs.fO
       obtain ⟨hk, bk⟩ := hs.call tk0 (.c (qB d3) (.c (qK d0) .n))
       refine aA rfl (o_call H (fun _ m => mac_Code.calls m hk) ?_)
       rintro t68 _ h H ⟨I, _, ⟨rfl, rfl, hl69⟩, hk⟩
       replace hs := bk hk ct0 rfl
       refine ⟨hs.keep, ?_⟩
       refine aO1 6 rfl (nS (e := 22) hs .i (tSl (tInt .u8)) ([x2] : List (List Int)) [.slice a25 x2.length p26] 1 (.slice none 0 0) (Reps.cons (T := (tSl (tInt .u8))) (c := [.slice a25 x2.length p26]) (x := x2) ⟨_, _, _, rfl, (hs.g d2)⟩ (.nil : Reps (tSl (tInt .u8)) (Cl.G .i E.B I) h [] [])) ?_)
       intro b70 h hs
       refine ⟨hs.keep, ?_⟩
       obtain ⟨I, hs⟩ := hs.fO
       obtain ⟨hk, bk⟩ := hs.call tk0 (.c (qI d2) (.c (qK d0) .n))
       refine aO1 7 rfl (o_call H (fun _ m => mac_Code.calls m hk) ?_)
       rintro t72 _ h H ⟨I, _, ⟨rfl, rfl, hl73⟩, hk⟩
       replace hs := bk hk ct0 rfl
       refine ⟨hs.keep, ?_⟩
       rcases bool_or (t68 == t72) with c74 | c74
       ·replace H := bif_f c74 H
        refine awp_runv 8 (.bool false) rfl (by kernel_rfl) (by kernel_rfl) (run_bool (run_eqAgg (xs := (List.map (Value.int .u8) t68).toArray) (ys := (List.map (Value.int .u8) t72).toArray) (by kernel_rfl) (by kernel_rfl) (by kernel_rfl) (fun w => run_equalIn_arr (d := 9998) (e := 5) (n := 32) (k := .u8) (l1 := t68) (l2 := t72) (by kernel_rfl) (by kernel_rfl) (by kernel_rfl) hl69 hl73)) c74) hs.keep ?_
        refine aRun [9, 10, 11, 12, 13, 14, 15, 16, 17, 18, 19, 20] 0 hs.keep ?_
        replace hs := hs.pk (.c d0 (.c d0 .n))
        replace hs := bk0 hs ct2 rfl
        refine aEnd ?_
        refine k_retQ ?_
        obtain rfl := Option.some.inj H
        exact ⟨_, by kernel_rfl, I, _, ⟨rfl, rfl⟩, hs.pk .n⟩
       ·replace H := bif_t c74 H
        refine awp_runv 8 (.bool true) rfl (by kernel_rfl) (by kernel_rfl) (run_bool (run_eqAgg (xs := (List.map (Value.int .u8) t68).toArray) (ys := (List.map (Value.int .u8) t72).toArray) (by kernel_rfl) (by kernel_rfl) (by kernel_rfl) (fun w => run_equalIn_arr (d := 9998) (e := 5) (n := 32) (k := .u8) (l1 := t68) (l2 := t72) (by kernel_rfl) (by kernel_rfl) (by kernel_rfl) hl69 hl73)) c74) hs.keep ?_
        refine aRun [9, 10, 11, 14, 15] 7 hs.keep ?_
        refine aT2 12 16 ?_ ?_
        ·refine aA rfl (nS (e := 22) hs .i (tSl (tInt .u8)) ([x2] : List (List Int)) [.slice a25 x2.length p26] 1 (.slice none 0 0) (Reps.cons (T := (tSl (tInt .u8))) (c := [.slice a25 x2.length p26]) (x := x2) ⟨_, _, _, rfl, (hs.g d3)⟩ (.nil : Reps (tSl (tInt .u8)) (Cl.G .i E.B I) h [] [])) ?_)
         intro b75 h hs
         refine ⟨hs.keep, ?_⟩
         refine aT2 13 16 ?_ ?_
         ·obtain ⟨I, hs⟩ := hs.fO
          obtain ⟨hk, bk⟩ := hs.call tk0 (.c (qB d5) (.c (qK d0) .n))
          refine aA rfl (o_call H (fun _ m => mac_Tag.calls m hk) ?_)
          rintro t77 _ h H ⟨I, _, ⟨rfl, rfl, hl78⟩, hk⟩
          replace hs := bk hk ct0 rfl
          refine ⟨hs.keep, ?_⟩
          refine aO1 16 rfl (nS (e := 22) hs .i (tSl (tInt .u8)) ([x2] : List (List Int)) [.slice a25 x2.length p26] 1 (.slice none 0 0) (Reps.cons (T := (tSl (tInt .u8))) (c := [.slice a25 x2.length p26]) (x := x2) ⟨_, _, _, rfl, (hs.g d4)⟩ (.nil : Reps (tSl (tInt .u8)) (Cl.G .i E.B I) h [] [])) ?_)
          intro b79 h hs
          refine ⟨hs.keep, ?_⟩
          obtain ⟨I, hs⟩ := hs.fO
          obtain ⟨hk, bk⟩ := hs.call tk0 (.c (qI d4) (.c (qK d0) .n))
          refine aO1 17 rfl (o_call H (fun _ m => mac_Tag.calls m hk) ?_)
          rintro t81 _ h H ⟨I, _, ⟨rfl, rfl, hl82⟩, hk⟩
          replace hs := bk hk ct0 rfl
          refine ⟨hs.keep, ?_⟩
          refine awp_runv 18 (.bool (t77 == t81)) rfl (by kernel_rfl) (by kernel_rfl) (run_eqAgg (xs := (List.map (Value.int .u8) t77).toArray) (ys := (List.map (Value.int .u8) t81).toArray) (by kernel_rfl) (by kernel_rfl) (by kernel_rfl) (fun w => run_equalIn_arr (d := 9998) (e := 5) (n := 16) (k := .u8) (l1 := t77) (l2 := t81) (by kernel_rfl) (by kernel_rfl) (by kernel_rfl) hl78 hl82)) hs.keep ?_
          refine aRun [19, 20] 0 hs.keep ?_
          replace hs := hs.pk (.c d0 (.c d0 (.c d0 (.c d0 .n))))
          replace hs := bk0 hs ct4 rfl
          refine aEnd ?_
          refine k_retQ ?_
          obtain rfl := Option.some.inj H
          exact ⟨_, by kernel_rfl, I, _, ⟨rfl, rfl⟩, hs.pk .n⟩
         ·refine aA rfl (nS (e := 22) hs .i (tSl (tInt .u8)) ([x2] : List (List Int)) [.slice a25 x2.length p26] 1 (.slice none 0 0) (Reps.cons (T := (tSl (tInt .u8))) (c := [.slice a25 x2.length p26]) (x := x2) ⟨_, _, _, rfl, (hs.g d4)⟩ (.nil : Reps (tSl (tInt .u8)) (Cl.G .i E.B I) h [] [])) ?_)
          intro b83 h hs
          refine ⟨hs.keep, ?_⟩
          obtain ⟨I, hs⟩ := (hs.f d1).fO
          obtain ⟨hk, bk⟩ := hs.call tk0 (.c (qB d6) (.c (qK d0) .n))
          refine aO1 13 rfl (o_call H (fun _ m => mac_Tag.calls m hk) ?_)
          rintro t85 _ h H ⟨I, _, ⟨rfl, rfl, hl86⟩, hk⟩
          replace hs := bk hk ct0 rfl
          refine ⟨hs.keep, ?_⟩
          obtain ⟨I, hs⟩ := (hs.f d1).fO
          obtain ⟨hk, bk⟩ := hs.call tk0 (.c (qI d4) (.c (qK d0) .n))
          refine aO1 17 rfl (o_call H (fun _ m => mac_Tag.calls m hk) ?_)
          rintro t87 _ h H ⟨I, _, ⟨rfl, rfl, hl88⟩, hk⟩
          replace hs := bk hk ct0 rfl
          refine ⟨hs.keep, ?_⟩
          refine awp_runv 18 (.bool (t85 == t87)) rfl (by kernel_rfl) (by kernel_rfl) (run_eqAgg (xs := (List.map (Value.int .u8) t85).toArray) (ys := (List.map (Value.int .u8) t87).toArray) (by kernel_rfl) (by kernel_rfl) (by kernel_rfl) (fun w => run_equalIn_arr (d := 9998) (e := 5) (n := 16) (k := .u8) (l1 := t85) (l2 := t87) (by kernel_rfl) (by kernel_rfl) (by kernel_rfl) hl86 hl88)) hs.keep ?_
          refine aRun [19, 20] 0 hs.keep ?_
          replace hs := hs.pk (.c d0 (.c d0 (.c d0 (.c d0 .n))))
          replace hs := bk0 hs ct4 rfl
          refine aEnd ?_
          refine k_retQ ?_
          obtain rfl := Option.some.inj H
          exact ⟨_, by kernel_rfl, I, _, ⟨rfl, rfl⟩, hs.pk .n⟩
        ·refine aA rfl (nS (e := 22) hs .i (tSl (tInt .u8)) ([x2] : List (List Int)) [.slice a25 x2.length p26] 1 (.slice none 0 0) (Reps.cons (T := (tSl (tInt .u8))) (c := [.slice a25 x2.length p26]) (x := x2) ⟨_, _, _, rfl, (hs.g d3)⟩ (.nil : Reps (tSl (tInt .u8)) (Cl.G .i E.B I) h [] [])) ?_)
         intro b89 h hs
         refine ⟨hs.keep, ?_⟩
         refine aO1 12 rfl (nS (e := 22) hs .i (tSl (tInt .u8)) ([x2] : List (List Int)) [.slice a25 x2.length p26] 1 (.slice none 0 0) (Reps.cons (T := (tSl (tInt .u8))) (c := [.slice a25 x2.length p26]) (x := x2) ⟨_, _, _, rfl, (hs.g d4)⟩ (.nil : Reps (tSl (tInt .u8)) (Cl.G .i E.B I) h [] [])) ?_)
         intro b91 h hs
         refine ⟨hs.keep, ?_⟩
         obtain ⟨I, hs⟩ := hs.fO
         obtain ⟨hk, bk⟩ := hs.call tk0 (.c (qB d6) (.c (qK d0) .n))
         refine aO1 13 rfl (o_call H (fun _ m => mac_Tag.calls m hk) ?_)
         rintro t93 _ h H ⟨I, _, ⟨rfl, rfl, hl94⟩, hk⟩
         replace hs := bk hk ct0 rfl
         refine ⟨hs.keep, ?_⟩
         obtain ⟨I, hs⟩ := (hs.f d1).fO
         obtain ⟨hk, bk⟩ := hs.call tk0 (.c (qI d4) (.c (qK d0) .n))
         refine aO1 17 rfl (o_call H (fun _ m => mac_Tag.calls m hk) ?_)
         rintro t95 _ h H ⟨I, _, ⟨rfl, rfl, hl96⟩, hk⟩
         replace hs := bk hk ct0 rfl
         refine ⟨hs.keep, ?_⟩
         refine awp_runv 18 (.bool (t93 == t95)) rfl (by kernel_rfl) (by kernel_rfl) (run_eqAgg (xs := (List.map (Value.int .u8) t93).toArray) (ys := (List.map (Value.int .u8) t95).toArray) (by kernel_rfl) (by kernel_rfl) (by kernel_rfl) (fun w => run_equalIn_arr (d := 9998) (e := 5) (n := 16) (k := .u8) (l1 := t93) (l2 := t95) (by kernel_rfl) (by kernel_rfl) (by kernel_rfl) hl94 hl96)) hs.keep ?_
         refine aRun [19, 20] 0 hs.keep ?_
         replace hs := hs.pk (.c d0 (.c d0 (.c d0 (.c d0 .n))))
         replace hs := bk0 hs ct4 rfl
         refine aEnd ?_
         refine k_retQ ?_
         obtain rfl := Option.some.inj H
         exact ⟨_, by kernel_rfl, I, _, ⟨rfl, rfl⟩, hs.pk .n⟩
      ·refine aA rfl (nS (e := 22) hs .i (tSl (tInt .u8)) ([x2] : List (List Int)) [.slice a25 x2.length p26] 1 (.slice none 0 0) (Reps.cons (T := (tSl (tInt .u8))) (c := [.slice a25 x2.length p26]) (x := x2) ⟨_, _, _, rfl, (hs.g d2)⟩ (.nil : Reps (tSl (tInt .u8)) (Cl.G .i E.B I) h [] [])) ?_)
       intro b97 h hs
       refine ⟨hs.keep, ?_⟩
       obtain ⟨I, hs⟩ := (hs.f d1).fO
       obtain ⟨hk, bk⟩ := hs.call tk0 (.c (qB d4) (.c (qK d0) .n))
       refine aO1 3 rfl (o_call H (fun _ m => mac_Code.calls m hk) ?_)
       rintro t99 _ h H ⟨I, _, ⟨rfl, rfl, hl100⟩, hk⟩
       replace hs := bk hk ct0 rfl
       refine ⟨hs.keep, ?_⟩
       obtain ⟨I, hs⟩ := (hs.f d1).fO
       obtain ⟨hk, bk⟩ := hs.call tk0 (.c (qI d2) (.c (qK d0) .n))
       refine aO1 7 rfl (o_call H (fun _ m => mac_Code.calls m hk) ?_)
       rintro t101 _ h H ⟨I, _, ⟨rfl, rfl, hl102⟩, hk⟩
       replace hs := bk hk ct0 rfl
       refine ⟨hs.keep, ?_⟩
       rcases bool_or (t99 == t101) with c103 | c103
       ·replace H := bif_f c103 H
        refine awp_runv 8 (.bool false) rfl (by kernel_rfl) (by kernel_rfl) (run_bool (run_eqAgg (xs := (List.map (Value.int .u8) t99).toArray) (ys := (List.map (Value.int .u8) t101).toArray) (by kernel_rfl) (by kernel_rfl) (by kernel_rfl) (fun w => run_equalIn_arr (d := 9998) (e := 5) (n := 32) (k := .u8) (l1 := t99) (l2 := t101) (by kernel_rfl) (by kernel_rfl) (by kernel_rfl) hl100 hl102)) c103) hs.keep ?_
        refine aRun [9, 10, 11, 12, 13, 14, 15, 16, 17, 18, 19, 20] 0 hs.keep ?_
        replace hs := hs.pk (.c d0 (.c d0 .n))
        replace hs := bk0 hs ct2 rfl
        refine aEnd ?_
        refine k_retQ ?_
        obtain rfl := Option.some.inj H
        exact ⟨_, by kernel_rfl, I, _, ⟨rfl, rfl⟩, hs.pk .n⟩
       ·replace H := bif_t c103 H
        refine awp_runv 8 (.bool true) rfl (by kernel_rfl) (by kernel_rfl) (run_bool (run_eqAgg (xs := (List.map (Value.int .u8) t99).toArray) (ys := (List.map (Value.int .u8) t101).toArray) (by kernel_rfl) (by kernel_rfl) (by kernel_rfl) (fun w => run_equalIn_arr (d := 9998) (e := 5) (n := 32) (k := .u8) (l1 := t99) (l2 := t101) (by kernel_rfl) (by kernel_rfl) (by kernel_rfl) hl100 hl102)) c103) hs.keep ?_
        refine aRun [9, 10, 11, 14, 15] 7 hs.keep ?_
        refine aT2 12 16 ?_ ?_
        ·refine aA rfl (nS (e := 22) hs .i (tSl (tInt .u8)) ([x2] : List (List Int)) [.slice a25 x2.length p26] 1 (.slice none 0 0) (Reps.cons (T := (tSl (tInt .u8))) (c := [.slice a25 x2.length p26]) (x := x2) ⟨_, _, _, rfl, (hs.g d3)⟩ (.nil : Reps (tSl (tInt .u8)) (Cl.G .i E.B I) h [] [])) ?_)
         intro b104 h hs
         refine ⟨hs.keep, ?_⟩
         refine aT2 13 16 ?_ ?_
         ·obtain ⟨I, hs⟩ := hs.fO
          obtain ⟨hk, bk⟩ := hs.call tk0 (.c (qB d5) (.c (qK d0) .n))
          refine aA rfl (o_call H (fun _ m => mac_Tag.calls m hk) ?_)
          rintro t106 _ h H ⟨I, _, ⟨rfl, rfl, hl107⟩, hk⟩
          replace hs := bk hk ct0 rfl
          refine ⟨hs.keep, ?_⟩
          refine aO1 16 rfl (nS (e := 22) hs .i (tSl (tInt .u8)) ([x2] : List (List Int)) [.slice a25 x2.length p26] 1 (.slice none 0 0) (Reps.cons (T := (tSl (tInt .u8))) (c := [.slice a25 x2.length p26]) (x := x2) ⟨_, _, _, rfl, (hs.g d4)⟩ (.nil : Reps (tSl (tInt .u8)) (Cl.G .i E.B I) h [] [])) ?_)
          intro b108 h hs
          refine ⟨hs.keep, ?_⟩
          obtain ⟨I, hs⟩ := hs.fO
          obtain ⟨hk, bk⟩ := hs.call tk0 (.c (qI d4) (.c (qK d0) .n))
          refine aO1 17 rfl (o_call H (fun _ m => mac_Tag.calls m hk) ?_)
          rintro t110 _ h H ⟨I, _, ⟨rfl, rfl, hl111⟩, hk⟩
          replace hs := bk hk ct0 rfl
          refine ⟨hs.keep, ?_⟩
          refine awp_runv 18 (.bool (t106 == t110)) rfl (by kernel_rfl) (by kernel_rfl) (run_eqAgg (xs := (List.map (Value.int .u8) t106).toArray) (ys := (List.map (Value.int .u8) t110).toArray) (by kernel_rfl) (by kernel_rfl) (by kernel_rfl) (fun w => run_equalIn_arr (d := 9998) (e := 5) (n := 16) (k := .u8) (l1 := t106) (l2 := t110) (by kernel_rfl) (by kernel_rfl) (by kernel_rfl) hl107 hl111)) hs.keep ?_
          refine aRun [19, 20] 0 hs.keep ?_
          replace hs := hs.pk (.c d0 (.c d0 (.c d0 (.c d0 .n))))
          replace hs := bk0 hs ct4 rfl
          refine aEnd ?_
          refine k_retQ ?_
          obtain rfl := Option.some.inj H
          exact ⟨_, by kernel_rfl, I, _, ⟨rfl, rfl⟩, hs.pk .n⟩
         ·refine aA rfl (nS (e := 22) hs .i (tSl (tInt .u8)) ([x2] : List (List Int)) [.slice a25 x2.length p26] 1 (.slice none 0 0) (Reps.cons (T := (tSl (tInt .u8))) (c := [.slice a25 x2.length p26]) (x := x2) ⟨_, _, _, rfl, (hs.g d4)⟩ (.nil : Reps (tSl (tInt .u8)) (Cl.G .i E.B I) h [] [])) ?_)
          intro b112 h hs
          refine ⟨hs.keep, ?_⟩
          obtain ⟨I, hs⟩ := (hs.f d1).fO
          obtain ⟨hk, bk⟩ := hs.call tk0 (.c (qB d6) (.c (qK d0) .n))
          refine aO1 13 rfl (o_call H (fun _ m => mac_Tag.calls m hk) ?_)
          rintro t114 _ h H ⟨I, _, ⟨rfl, rfl, hl115⟩, hk⟩
          replace hs := bk hk ct0 rfl
          refine ⟨hs.keep, ?_⟩
          obtain ⟨I, hs⟩ := (hs.f d1).fO
          obtain ⟨hk, bk⟩ := hs.call tk0 (.c (qI d4) (.c (qK d0) .n))
          refine aO1 17 rfl (o_call H (fun _ m => mac_Tag.calls m hk) ?_)
          rintro t116 _ h H ⟨I, _, ⟨rfl, rfl, hl117⟩, hk⟩
          replace hs := bk hk ct0 rfl
          refine ⟨hs.keep, ?_⟩
          refine awp_runv 18 (.bool (t114 == t116)) rfl (by kernel_rfl) (by kernel_rfl) (run_eqAgg (xs := (List.map (Value.int .u8) t114).toArray) (ys := (List.map (Value.int .u8) t116).toArray) (by kernel_rfl) (by kernel_rfl) (by kernel_rfl) (fun w => run_equalIn_arr (d := 9998) (e := 5) (n := 16) (k := .u8) (l1 := t114) (l2 := t116) (by kernel_rfl) (by kernel_rfl) (by kernel_rfl) hl115 hl117)) hs.keep ?_
          refine aRun [19, 20] 0 hs.keep ?_
          replace hs := hs.pk (.c d0 (.c d0 (.c d0 (.c d0 .n))))
          replace hs := bk0 hs ct4 rfl
          refine aEnd ?_
          refine k_retQ ?_
          obtain rfl := Option.some.inj H
          exact ⟨_, by kernel_rfl, I, _, ⟨rfl, rfl⟩, hs.pk .n⟩
        ·refine aA rfl (nS (e := 22) hs .i (tSl (tInt .u8)) ([x2] : List (List Int)) [.slice a25 x2.length p26] 1 (.slice none 0 0) (Reps.cons (T := (tSl (tInt .u8))) (c := [.slice a25 x2.length p26]) (x := x2) ⟨_, _, _, rfl, (hs.g d3)⟩ (.nil : Reps (tSl (tInt .u8)) (Cl.G .i E.B I) h [] [])) ?_)
         intro b118 h hs
         refine ⟨hs.keep, ?_⟩
         refine aO1 12 rfl (nS (e := 22) hs .i (tSl (tInt .u8)) ([x2] : List (List Int)) [.slice a25 x2.length p26] 1 (.slice none 0 0) (Reps.cons (T := (tSl (tInt .u8))) (c := [.slice a25 x2.length p26]) (x := x2) ⟨_, _, _, rfl, (hs.g d4)⟩ (.nil : Reps (tSl (tInt .u8)) (Cl.G .i E.B I) h [] [])) ?_)
         intro b120 h hs
         refine ⟨hs.keep, ?_⟩
         obtain ⟨I, hs⟩ := hs.fO
         obtain ⟨hk, bk⟩ := hs.call tk0 (.c (qB d6) (.c (qK d0) .n))
         refine aO1 13 rfl (o_call H (fun _ m => mac_Tag.calls m hk) ?_)
         rintro t122 _ h H ⟨I, _, ⟨rfl, rfl, hl123⟩, hk⟩
         replace hs := bk hk ct0 rfl
         refine ⟨hs.keep, ?_⟩
         obtain ⟨I, hs⟩ := (hs.f d1).fO
         obtain ⟨hk, bk⟩ := hs.call tk0 (.c (qI d4) (.c (qK d0) .n))
         refine aO1 17 rfl (o_call H (fun _ m => mac_Tag.calls m hk) ?_)
         rintro t124 _ h H ⟨I, _, ⟨rfl, rfl, hl125⟩, hk⟩
         replace hs := bk hk ct0 rfl
         refine ⟨hs.keep, ?_⟩
         refine awp_runv 18 (.bool (t122 == t124)) rfl (by kernel_rfl) (by kernel_rfl) (run_eqAgg (xs := (List.map (Value.int .u8) t122).toArray) (ys := (List.map (Value.int .u8) t124).toArray) (by kernel_rfl) (by kernel_rfl) (by kernel_rfl) (fun w => run_equalIn_arr (d := 9998) (e := 5) (n := 16) (k := .u8) (l1 := t122) (l2 := t124) (by kernel_rfl) (by kernel_rfl) (by kernel_rfl) hl123 hl125)) hs.keep ?_
         refine aRun [19, 20] 0 hs.keep ?_
         replace hs := hs.pk (.c d0 (.c d0 (.c d0 (.c d0 .n))))
         replace hs := bk0 hs ct4 rfl
         refine aEnd ?_
         refine k_retQ ?_
         obtain rfl := Option.some.inj H
         exact ⟨_, by kernel_rfl, I, _, ⟨rfl, rfl⟩, hs.pk .n⟩
     ·refine aA rfl (nS (e := 22) hs .i (tSl (tInt .u8)) ([x2] : List (List Int)) [.slice a25 x2.length p26] 1 (.slice none 0 0) (Reps.cons (T := (tSl (tInt .u8))) (c := [.slice a25 x2.length p26]) (x := x2) ⟨_, _, _, rfl, (hs.g d1)⟩ (.nil : Reps (tSl (tInt .u8)) (Cl.G .i E.B I) h [] [])) ?_)
      intro b126 h hs
      refine ⟨hs.keep, ?_⟩
      refine aO1 2 rfl (nS (e := 22) hs .i (tSl (tInt .u8)) ([x2] : List (List Int)) [.slice a25 x2.length p26] 1 (.slice none 0 0) (Reps.cons (T := (tSl (tInt .u8))) (c := [.slice a25 x2.length p26]) (x := x2) ⟨_, _, _, rfl, (hs.g d2)⟩ (.nil : Reps (tSl (tInt .u8)) (Cl.G .i E.B I) h [] [])) ?_)
      intro b128 h hs
      refine ⟨hs.keep, ?_⟩
      obtain ⟨I, hs⟩ := hs.fO
      obtain ⟨hk, bk⟩ := hs.call tk0 (.c (qB d4) (.c (qK d0) .n))
      refine aO1 3 rfl (o_call H (fun _ m => mac_Code.calls m hk) ?_)
      rintro t130 _ h H ⟨I, _, ⟨rfl, rfl, hl131⟩, hk⟩
      replace hs := bk hk ct0 rfl
      refine ⟨hs.keep, ?_⟩
      obtain ⟨I, hs⟩ := (hs.f d1).fO
      obtain ⟨hk, bk⟩ := hs.call tk0 (.c (qI d2) (.c (qK d0) .n))
      refine aO1 7 rfl (o_call H (fun _ m => mac_Code.calls m hk) ?_)
      rintro t132 _ h H ⟨I, _, ⟨rfl, rfl, hl133⟩, hk⟩
      replace hs := bk hk ct0 rfl
      refine ⟨hs.keep, ?_⟩
      rcases bool_or (t130 == t132) with c134 | c134
      ·replace H := bif_f c134 H
       refine awp_runv 8 (.bool false) rfl (by kernel_rfl) (by kernel_rfl) (run_bool (run_eqAgg (xs := (List.map (Value.int .u8) t130).toArray) (ys := (List.map (Value.int .u8) t132).toArray) (by kernel_rfl) (by kernel_rfl) (by kernel_rfl) (fun w => run_equalIn_arr (d := 9998) (e := 5) (n := 32) (k := .u8) (l1 := t130) (l2 := t132) (by kernel_rfl) (by kernel_rfl) (by kernel_rfl) hl131 hl133)) c134) hs.keep ?_
       refine aRun [9, 10, 11, 12, 13, 14, 15, 16, 17, 18, 19, 20] 0 hs.keep ?_
       replace hs := hs.pk (.c d0 (.c d0 .n))
       replace hs := bk0 hs ct2 rfl
       refine aEnd ?_
       refine k_retQ ?_
       obtain rfl := Option.some.inj H
       exact ⟨_, by kernel_rfl, I, _, ⟨rfl, rfl⟩, hs.pk .n⟩
      ·replace H := bif_t c134 H
       refine awp_runv 8 (.bool true) rfl (by kernel_rfl) (by kernel_rfl) (run_bool (run_eqAgg (xs := (List.map (Value.int .u8) t130).toArray) (ys := (List.map (Value.int .u8) t132).toArray) (by kernel_rfl) (by kernel_rfl) (by kernel_rfl) (fun w => run_equalIn_arr (d := 9998) (e := 5) (n := 32) (k := .u8) (l1 := t130) (l2 := t132) (by kernel_rfl) (by kernel_rfl) (by kernel_rfl) hl131 hl133)) c134) hs.keep ?_
       refine aRun [9, 10, 11, 14, 15] 7 hs.keep ?_
       refine aT2 12 16 ?_ ?_
       ·refine aA rfl (nS (e := 22) hs .i (tSl (tInt .u8)) ([x2] : List (List Int)) [.slice a25 x2.length p26] 1 (.slice none 0 0) (Reps.cons (T := (tSl (tInt .u8))) (c := [.slice a25 x2.length p26]) (x := x2) ⟨_, _, _, rfl, (hs.g d3)⟩ (.nil : Reps (tSl (tInt .u8)) (Cl.G .i E.B I) h [] [])) ?_)
        intro b135 h hs
        refine ⟨hs.keep, ?_⟩
        refine aT2 13 16 ?_ ?_
        ·obtain ⟨I, hs⟩ := hs.fO
         obtain ⟨hk, bk⟩ := hs.call tk0 (.c (qB d5) (.c (qK d0) .n))
         refine aA rfl (o_call H (fun _ m => mac_Tag.calls m hk) ?_)
         rintro t137 _ h H ⟨I, _, ⟨rfl, rfl, hl138⟩, hk⟩
         replace hs := bk hk ct0 rfl
         refine ⟨hs.keep, ?_⟩
         refine aO1 16 rfl (nS (e := 22) hs .i (tSl (tInt .u8)) ([x2] : List (List Int)) [.slice a25 x2.length p26] 1 (.slice none 0 0) (Reps.cons (T := (tSl (tInt .u8))) (c := [.slice a25 x2.length p26]) (x := x2) ⟨_, _, _, rfl, (hs.g d4)⟩ (.nil : Reps (tSl (tInt .u8)) (Cl.G .i E.B I) h [] [])) ?_)
         intro b139 h hs
         refine ⟨hs.keep, ?_⟩
         obtain ⟨I, hs⟩ := hs.fO
         obtain ⟨hk, bk⟩ := hs.call tk0 (.c (qI d4) (.c (qK d0) .n))
         refine aO1 17 rfl (o_call H (fun _ m => mac_Tag.calls m hk) ?_)
         rintro t141 _ h H ⟨I, _, ⟨rfl, rfl, hl142⟩, hk⟩
         replace hs := bk hk ct0 rfl
         refine ⟨hs.keep, ?_⟩
         refine awp_runv 18 (.bool (t137 == t141)) rfl (by kernel_rfl) (by kernel_rfl) (run_eqAgg (xs := (List.map (Value.int .u8) t137).toArray) (ys := (List.map (Value.int .u8) t141).toArray) (by kernel_rfl) (by kernel_rfl) (by kernel_rfl) (fun w => run_equalIn_arr (d := 9998) (e := 5) (n := 16) (k := .u8) (l1 := t137) (l2 := t141) (by kernel_rfl) (by kernel_rfl) (by kernel_rfl) hl138 hl142)) hs.keep ?_
         refine aRun [19, 20] 0 hs.keep ?_
         replace hs := hs.pk (.c d0 (.c d0 (.c d0 (.c d0 .n))))
         replace hs := bk0 hs ct4 rfl
         refine aEnd ?_
         refine k_retQ ?_
         obtain rfl := Option.some.inj H
         exact ⟨_, by kernel_rfl, I, _, ⟨rfl, rfl⟩, hs.pk .n⟩
        ·refine aA rfl (nS (e := 22) hs .i (tSl (tInt .u8)) ([x2] : List (List Int)) [.slice a25 x2.length p26] 1 (.slice none 0 0) (Reps.cons (T := (tSl (tInt .u8))) (c := [.slice a25 x2.length p26]) (x := x2) ⟨_, _, _, rfl, (hs.g d4)⟩ (.nil : Reps (tSl (tInt .u8)) (Cl.G .i E.B I) h [] [])) ?_)
         intro b143 h hs
         refine ⟨hs.keep, ?_⟩
         obtain ⟨I, hs⟩ := (hs.f d1).fO
         obtain ⟨hk, bk⟩ := hs.call tk0 (.c (qB d6) (.c (qK d0) .n))
         refine aO1 13 rfl (o_call H (fun _ m => mac_Tag.calls m hk) ?_)
         rintro t145 _ h H ⟨I, _, ⟨rfl, rfl, hl146⟩, hk⟩
         replace hs := bk hk ct0 rfl
         refine ⟨hs.keep, ?_⟩
         obtain ⟨I, hs⟩ := (hs.f d1).fO
         obtain ⟨hk, bk⟩ := hs.call tk0 (.c (qI d4) (.c (qK d0) .n))
         refine aO1 17 rfl (o_call H (fun _ m => mac_Tag.calls m hk) ?_)
         rintro t147 _ h H ⟨I, _, ⟨rfl, rfl, hl148⟩, hk⟩
         replace hs := bk hk ct0 rfl
         refine ⟨hs.keep, ?_⟩
         refine awp_runv 18 (.bool (t145 == t147)) rfl (by kernel_rfl) (by kernel_rfl) (run_eqAgg (xs := (List.map (Value.int .u8) t145).toArray) (ys := (List.map (Value.int .u8) t147).toArray) (by kernel_rfl) (by kernel_rfl) (by kernel_rfl) (fun w => run_equalIn_arr (d := 9998) (e := 5) (n := 16) (k := .u8) (l1 := t145) (l2 := t147) (by kernel_rfl) (by kernel_rfl) (by kernel_rfl) hl146 hl148)) hs.keep ?_
         refine aRun [19, 20] 0 hs.keep ?_
         replace hs := hs.pk (.c d0 (.c d0 (.c d0 (.c d0 .n))))
         replace hs := bk0 hs ct4 rfl
         refine aEnd ?_
         refine k_retQ ?_
         obtain rfl := Option.some.inj H
         exact ⟨_, by kernel_rfl, I, _, ⟨rfl, rfl⟩, hs.pk .n⟩
       ·refine aA rfl (nS (e := 22) hs .i (tSl (tInt .u8)) ([x2] : List (List Int)) [.slice a25 x2.length p26] 1 (.slice none 0 0) (Reps.cons (T := (tSl (tInt .u8))) (c := [.slice a25 x2.length p26]) (x := x2) ⟨_, _, _, rfl, (hs.g d3)⟩ (.nil : Reps (tSl (tInt .u8)) (Cl.G .i E.B I) h [] [])) ?_)
        intro b149 h hs
        refine ⟨hs.keep, ?_⟩
        refine aO1 12 rfl (nS (e := 22) hs .i (tSl (tInt .u8)) ([x2] : List (List Int)) [.slice a25 x2.length p26] 1 (.slice none 0 0) (Reps.cons (T := (tSl (tInt .u8))) (c := [.slice a25 x2.length p26]) (x := x2) ⟨_, _, _, rfl, (hs.g d4)⟩ (.nil : Reps (tSl (tInt .u8)) (Cl.G .i E.B I) h [] [])) ?_)
        intro b151 h hs
        refine ⟨hs.keep, ?_⟩
        obtain ⟨I, hs⟩ := hs.fO
        obtain ⟨hk, bk⟩ := hs.call tk0 (.c (qB d6) (.c (qK d0) .n))
        refine aO1 13 rfl (o_call H (fun _ m => mac_Tag.calls m hk) ?_)
        rintro t153 _ h H ⟨I, _, ⟨rfl, rfl, hl154⟩, hk⟩
        replace hs := bk hk ct0 rfl
        refine ⟨hs.keep, ?_⟩
        obtain ⟨I, hs⟩ := (hs.f d1).fO
        obtain ⟨hk, bk⟩ := hs.call tk0 (.c (qI d4) (.c (qK d0) .n))
        refine aO1 17 rfl (o_call H (fun _ m => mac_Tag.calls m hk) ?_)
        rintro t155 _ h H ⟨I, _, ⟨rfl, rfl, hl156⟩, hk⟩
        replace hs := bk hk ct0 rfl
        refine ⟨hs.keep, ?_⟩
        refine awp_runv 18 (.bool (t153 == t155)) rfl (by kernel_rfl) (by kernel_rfl) (run_eqAgg (xs := (List.map (Value.int .u8) t153).toArray) (ys := (List.map (Value.int .u8) t155).toArray) (by kernel_rfl) (by kernel_rfl) (by kernel_rfl) (fun w => run_equalIn_arr (d := 9998) (e := 5) (n := 16) (k := .u8) (l1 := t153) (l2 := t155) (by kernel_rfl) (by kernel_rfl) (by kernel_rfl) hl154 hl156)) hs.keep ?_
        refine aRun [19, 20] 0 hs.keep ?_
        replace hs := hs.pk (.c d0 (.c d0 (.c d0 (.c d0 .n))))
        replace hs := bk0 hs ct4 rfl
        refine aEnd ?_
        refine k_retQ ?_
        obtain rfl := Option.some.inj H
        exact ⟨_, by kernel_rfl, I, _, ⟨rfl, rfl⟩, hs.pk .n⟩

end Go.Proofs.Ytooaghempnlclaa.Sx
