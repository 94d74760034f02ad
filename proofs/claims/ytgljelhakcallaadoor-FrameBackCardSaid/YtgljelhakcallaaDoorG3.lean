/- Printed walks, part 3: each function's model, and that the code comes to it. -/
import Derived.Test.YtgljelhakcallaaDoorProg
import Derived.Test.YtgljelhakcallaaDoorV4
import Derived.Test.YtgljelhakcallaaDoorV5
import Derived.Test.YtgljelhakcallaaDoorG2
namespace Go.Proofs.YtgljelhakcallaaDoor.Sx
open Go
set_option maxRecDepth 100000

/-! shutter/shutterref02.Code -/
def shutterref02_Code.l1.m (K : Nat) : Nat → (List Int) → Option ((List Int))
  | 0, _ => none
  | k + 1, x58 => (if (x58.length : Int) < 64 then ((app x58 [0]).bind fun l74 => (shutterref02_Code.l1.m K k l74)) else (some (x58)))
def shutterref02_Code.l2.m (K : Nat) (x64 : List Int) : Nat → (List Int) → (List Int) → Int → Option ((List Int) × (List Int))
  | 0, _, _, _ => none
  | k + 1, x79, x84, x89 => (if x89 < 64 then (if 0 ≤ x89 then (if x89 < (x64.length : Int) then ((app x79 [(bXor .u8 (at_ x64 x89) 54)]).bind fun l108 => ((app x84 [(bXor .u8 (at_ x64 x89) 92)]).bind fun l115 => (shutterref02_Code.l2.m K x64 k l108 l115 (w64 (x89 + 1))))) else none) else none) else (some ((x79, x84))))
def shutterref02_Code.m (K : Nat) (x0 : (List Int)) (x1 : (List Int)) : Option (List Int) :=
  ((app [] x0).bind fun l32 => (letJ (α := (List Int) → Option (List Int)) (fun (x52 : List Int) => ((shutterref02_Code.l1.m K K x52).bind fun x64 => ((shutterref02_Code.l2.m K x64 K [] [] 0).bind fun (x91, x96) => ((app x91 x1).bind fun l120 => ((shutterref01_Of.m K l120).bind fun t125 => ((app x96 t125).bind fun l129 => ((shutterref01_Of.m K l129).bind fun t134 => (some t134)))))))) fun (j57 : (List Int) → Option (List Int)) => (letJ (α := Bool → Option (List Int)) (fun (x38 : Bool) => (bif x38 then ((shutterref01_Of.m K x0).bind fun t40 => ((app [] t40).bind fun l46 => (j57 l46))) else (j57 l32))) fun (j39 : Bool → Option (List Int)) => (if (x0.length : Int) > 64 then (j39 true) else (j39 false)))))

theorem shutterref02_Code.calls {B I : Gh} {h : Heap} {K : Nat} {x0 : (List Int)} {x1 : (List Int)} {a21 : Option Addr} {p22 : Nat} {n23 : Nat} {a25 : Option Addr} {p26 : Nat} {n27 : Nat} {r : (List Int)} (H : shutterref02_Code.m K x0 x1 = some r)  :
    Fc Tryd.prog 43 #[.slice a21 n23 p22, .slice a25 n27 p26] [rR (tInt .u8) .b a21 p22 n23 x0, rR (tInt .u8) .b a25 p26 n27 x1] B I h (fun v L => v = .agg (List.map (Value.int .u8) r).toArray ∧ L = [] ∧ List.length r = 32) := by
 refine fc_of fun E hs => ?_
 unfold shutterref02_Code.m at H
 obtain rfl := hs.nR d0
 obtain rfl := hs.nR d1
 refine fn_of2 (args := [.slice a21 x0.length p22, .slice a25 x1.length p26]) (rs := [.cell 4 72]) (N := 56) Tryd.func43 rfl rfl rfl rfl ?_
 refine st 2 [] (k_op (nA hs (List.map (Value.int .u8) (List.replicate 32 (0 : Int))) (.agg (List.map (Value.int .u8) (List.replicate 32 (0 : Int))).toArray) ?_))
 intro b29 h hs
 refine st 3 [] (k_op (nS (e := 5) hs .i (tInt .u8) ([] : List Int) [] 1 (.int .u8 0) (Reps.int (I := (Cl.G .i E.B I)) (k := .u8) (l := [])) ?_))
 intro b30 h hs
 obtain ⟨l32, m33, H⟩ := bind_some H
 refine st 1 [] (k_op (aO (e := 5) (bytes := 1) hs ((hs.sR d2).flat flat_int) m33 ?_))
 intro a34 p35 h hs
 refine st 3 [] ?_
 obtain ⟨j57, e136, H⟩ := letJ_some H
 refine k_join (fun ρ h => ∃ (x52 : List Int) (a53 : Option Addr) (p54 : Nat) (n55 : Nat) (I : Gh), j57 x52 = some r ∧ Fits [(1, .slice a25 x1.length p26), (4, .pointer (some ⟨b29, 0, none⟩)), (5, .slice a53 n55 p54)] ρ ∧ St E [rR (tInt .u8) .b a25 p26 x1.length x1, rO (tInt .u8) .i a53 p54 n55 x52, rB b29 (List.map (Value.int .u8) (List.replicate 32 (0 : Int))) 72] I h) ?_ ?_
 ·refine st 1 [] ?_
  obtain ⟨j39, e51, H⟩ := letJ_some H
  refine k_join (fun ρ h => ∃ (x38 : Bool) (I : Gh), j39 x38 = some r ∧ Fits [(0, .slice a21 x0.length p22), (1, .slice a25 x1.length p26), (4, .pointer (some ⟨b29, 0, none⟩)), (5, .slice a34 l32.length p35), (16, .bool x38)] ρ ∧ St E [rR (tInt .u8) .b a21 p22 x0.length x0, rR (tInt .u8) .b a25 p26 x1.length x1, rO (tInt .u8) .i a34 p35 l32.length l32, rB b29 (List.map (Value.int .u8) (List.replicate 32 (0 : Int))) 72] I h) ?_ ?_
  ·refine st 3 [] (k_ite H (fun c37 H => ?_) (fun c37 H => ?_))
   ·refine st 1 [] ?_
    exact k_end ⟨true, I, H, ⟨by kernel_rfl, by kernel_rfl, by kernel_rfl, by kernel_rfl, by kernel_rfl, trivial⟩, hs.pk (.c d2 (.c d2 (.c d0 (.c d0 .n))))⟩
   ·refine st 1 [] ?_
    exact k_end ⟨false, I, H, ⟨by kernel_rfl, by kernel_rfl, by kernel_rfl, by kernel_rfl, by kernel_rfl, trivial⟩, hs.pk (.c d2 (.c d2 (.c d0 (.c d0 .n))))⟩
  ·clear H
   rintro ρ h ⟨x38, I, H, hf, hs⟩
   refine k_fits _ hf ?_ rfl
   subst e51
   try dsimp only at H
   cases x38
   ·rw [cond_false] at H
    refine st 2 [false] ?_
    exact k_end ⟨l32, a34, p35, l32.length, I, H, ⟨by kernel_rfl, by kernel_rfl, by kernel_rfl, trivial⟩, hs.pk (.c d1 (.c d1 (.c d1 .n)))⟩
   ·rw [cond_true] at H
    obtain ⟨hk, bk⟩ := hs.call tk0 (.c (qB d0) .n)
    refine st 4 [true] (k_call H (fun _ m => shutterref01_Of.calls m hk) ?_)
    rintro t40 _ h H ⟨I, _, ⟨rfl, rfl, hl41⟩, hk⟩
    replace hs := bk hk ct0 rfl
    refine k_op (nA hs (List.map (Value.int .u8) (List.replicate 32 (0 : Int))) (.agg (List.map (Value.int .u8) (List.replicate 32 (0 : Int))).toArray) ?_)
    intro b42 h hs
    refine k_op (sAN (l2 := t40) hs (List.length_replicate (n := 32) (a := (0 : Int))) hl41 ?_)
    intro h hs
    refine st 2 [] (k_op (nS (e := 5) hs .i (tInt .u8) ([] : List Int) [] 1 (.int .u8 0) (Reps.int (I := (Cl.G .i E.B I)) (k := .u8) (l := [])) ?_))
    intro b43 h hs
    obtain ⟨I, hs⟩ := (hs.f d1).fA hl41
    replace hs := (hs.f d1)
    obtain ⟨l46, m47, H⟩ := bind_some H
    refine st 1 [] (k_op (aO (e := 5) (bytes := 1) hs (hs.sR d1) m47 ?_))
    intro a48 p49 h hs
    refine st 2 [] ?_
    exact k_end ⟨l46, a48, p49, l46.length, I, H, ⟨by kernel_rfl, by kernel_rfl, by kernel_rfl, trivial⟩, hs.pk (.c d3 (.c d0 (.c d3 .n)))⟩
 ·clear H
  rintro ρ h ⟨x52, a53, p54, n55, I, H, hf, hs⟩
  refine k_fits _ hf ?_ rfl
  subst e136
  try dsimp only at H
  obtain rfl := hs.nO d1
  refine st 2 [] ?_
  obtain ⟨s63, m70, HR69⟩ := bind_some H
  refine k_loop 0 (fun k' ρ h => ∃ (x58 : List Int) (a59 : Option Addr) (p60 : Nat) (n61 : Nat) (I : Gh), shutterref02_Code.l1.m K k' x58 = some s63 ∧ Fits [(1, .slice a25 x1.length p26), (4, .pointer (some ⟨b29, 0, none⟩)), (5, .slice a59 n61 p60)] ρ ∧ St E [rR (tInt .u8) .b a25 p26 x1.length x1, rO (tInt .u8) .i a59 p60 n61 x58, rB b29 (List.map (Value.int .u8) (List.replicate 32 (0 : Int))) 72] I h) (fun ρ h => ∃ (x64 : List Int) (a65 : Option Addr) (p66 : Nat) (n67 : Nat) (I : Gh), x64 = s63 ∧ Fits [(1, .slice a25 x1.length p26), (4, .pointer (some ⟨b29, 0, none⟩)), (5, .slice a65 n67 p66)] ρ ∧ St E [rR (tInt .u8) .b a25 p26 x1.length x1, rO (tInt .u8) .i a65 p66 n67 x64, rB b29 (List.map (Value.int .u8) (List.replicate 32 (0 : Int))) 72] I h) K ⟨x52, a53, p54, x52.length, I, m70, ⟨by kernel_rfl, by kernel_rfl, by kernel_rfl, trivial⟩, hs.pk (.c d0 (.c d0 (.c d0 .n)))⟩ ?_ rfl ?_
  ·clear HR69 m70 H
   rintro k' ρ h ⟨x58, a59, p60, n61, I, H, hf, hs⟩
   cases k' with
   | zero => cases H
   | succ k =>
    rw [shutterref02_Code.l1.m] at H
    refine k_fits _ hf ?_ rfl
    obtain rfl := hs.nO d1
    refine st 5 [] (k_ite H (fun c71 H => ?_) (fun c71 H => ?_))
    ·refine st 6 [true] (k_op (nS (e := 5) hs .i (tInt .u8) ([0] : List Int) [.int .u8 0] 1 (.int .u8 0) (Reps.int (I := (Cl.G .i E.B I)) (k := .u8) (l := [0])) ?_))
     intro b72 h hs
     replace hs := (hs.f d2)
     obtain ⟨l74, m75, H⟩ := bind_some H
     refine k_op (aO (e := 5) (bytes := 1) hs (hs.sO d1) m75 ?_)
     intro a76 p77 h hs
     refine st 3 [] ?_
     exact k_endL ⟨k, Nat.lt_succ_self _, l74, a76, p77, l74.length, I, H, ⟨by kernel_rfl, by kernel_rfl, by kernel_rfl, trivial⟩, hs.pk (.c d2 (.c d0 (.c d1 .n)))⟩
    ·refine st 2 [false] ?_
     refine k_out rfl ?_
     obtain rfl := Option.some.inj H
     exact xE ⟨x58, a59, p60, x58.length, I, rfl, ⟨by kernel_rfl, by kernel_rfl, by kernel_rfl, trivial⟩, hs.pk (.c d0 (.c d0 (.c d0 .n)))⟩
  ·rintro ρ h ⟨x64, a65, p66, n67, I, rfl, hf, hs⟩
   have H := HR69
   try dsimp only at H
   refine k_fits _ hf ?_ rfl
   obtain rfl := hs.nO d1
   refine st 14 [] ?_
   obtain ⟨s90, m102, HR101⟩ := bind_some H
   refine k_loop 2 (fun k' ρ h => ∃ (x79 : List Int) (x84 : List Int) (x89 : Int) (a80 : Option Addr) (p81 : Nat) (n82 : Nat) (a85 : Option Addr) (p86 : Nat) (n87 : Nat) (I : Gh), shutterref02_Code.l2.m K x64 k' x79 x84 x89 = some s90 ∧ Fits [(1, .slice a25 x1.length p26), (4, .pointer (some ⟨b29, 0, none⟩)), (5, .slice a65 x64.length p66), (7, .slice a80 n82 p81), (8, .slice a85 n87 p86), (9, .int .i64 x89)] ρ ∧ St E [rR (tInt .u8) .b a25 p26 x1.length x1, rO (tInt .u8) .i a65 p66 x64.length x64, rO (tInt .u8) .i a80 p81 n82 x79, rO (tInt .u8) .i a85 p86 n87 x84, rB b29 (List.map (Value.int .u8) (List.replicate 32 (0 : Int))) 72] I h) (fun ρ h => ∃ (x91 : List Int) (x96 : List Int) (a92 : Option Addr) (p93 : Nat) (n94 : Nat) (a97 : Option Addr) (p98 : Nat) (n99 : Nat) (I : Gh), (x91, x96) = s90 ∧ Fits [(1, .slice a25 x1.length p26), (4, .pointer (some ⟨b29, 0, none⟩)), (7, .slice a92 n94 p93), (8, .slice a97 n99 p98)] ρ ∧ St E [rR (tInt .u8) .b a25 p26 x1.length x1, rO (tInt .u8) .i a92 p93 n94 x91, rO (tInt .u8) .i a97 p98 n99 x96, rB b29 (List.map (Value.int .u8) (List.replicate 32 (0 : Int))) 72] I h) K ⟨[], [], 0, none, 0, 0, none, 0, 0, I, m102, ⟨by kernel_rfl, by kernel_rfl, by kernel_rfl, by kernel_rfl, by kernel_rfl, by kernel_rfl, trivial⟩, hs.pk (.c d0 (.c d0 (.f imON (.f imON (.c d0 .n)))))⟩ ?_ rfl ?_
   ·clear HR101 m102 H
    rintro k' ρ h ⟨x79, x84, x89, a80, p81, n82, a85, p86, n87, I, H, hf, hs⟩
    cases k' with
    | zero => cases H
    | succ k =>
     rw [shutterref02_Code.l2.m] at H
     refine k_fits _ hf ?_ rfl
     obtain rfl := hs.nO d2
     obtain rfl := hs.nO d3
     refine st 4 [] (k_ite H (fun c103 H => ?_) (fun c103 H => ?_))
     ·obtain ⟨c104, H⟩ := guard_pos H
      obtain ⟨c105, H⟩ := guard_pos H
      refine st 10 [true] (k_val (elemPtr a65 (x89.toNat * 1)) (pI (e := 5) (ik := .i64) (hs.sO d1) c104 c105) ?_)
      refine k_op (lC ((hs.sO d1).cell1 c104 c105) ?_)
      refine st 1 [] (k_op (nS (e := 5) hs .i (tInt .u8) ([(bXor .u8 (at_ x64 x89) 54)] : List Int) [.int .u8 (bXor .u8 (at_ x64 x89) 54)] 1 (.int .u8 0) (Reps.int (I := (Cl.G .i E.B I)) (k := .u8) (l := [(bXor .u8 (at_ x64 x89) 54)])) ?_))
      intro b106 h hs
      replace hs := (hs.f d3)
      obtain ⟨l108, m109, H⟩ := bind_some H
      refine k_op (aO (e := 5) (bytes := 1) hs (hs.sO d1) m109 ?_)
      intro a110 p111 h hs
      refine st 6 [] (k_val (elemPtr a65 (x89.toNat * 1)) (pI (e := 5) (ik := .i64) (hs.sO d3) c104 c105) ?_)
      refine k_op (lC ((hs.sO d3).cell1 c104 c105) ?_)
      refine st 1 [] (k_op (nS (e := 5) hs .i (tInt .u8) ([(bXor .u8 (at_ x64 x89) 92)] : List Int) [.int .u8 (bXor .u8 (at_ x64 x89) 92)] 1 (.int .u8 0) (Reps.int (I := (Cl.G .i E.B I)) (k := .u8) (l := [(bXor .u8 (at_ x64 x89) 92)])) ?_))
      intro b113 h hs
      replace hs := (hs.f d5)
      obtain ⟨l115, m116, H⟩ := bind_some H
      refine k_op (aO (e := 5) (bytes := 1) hs (hs.sO d1) m116 ?_)
      intro a117 p118 h hs
      refine st 8 [] ?_
      exact k_endL ⟨k, Nat.lt_succ_self _, l108, l115, (w64 (x89 + 1)), a110, p111, l108.length, a117, p118, l115.length, I, H, ⟨by kernel_rfl, by kernel_rfl, by kernel_rfl, by kernel_rfl, by kernel_rfl, by kernel_rfl, trivial⟩, hs.pk (.c d4 (.c d4 (.c d2 (.c d0 (.c d2 .n)))))⟩
     ·refine st 2 [false] ?_
      refine k_out rfl ?_
      obtain rfl := Option.some.inj H
      exact xE ⟨x79, x84, a80, p81, x79.length, a85, p86, x84.length, I, rfl, ⟨by kernel_rfl, by kernel_rfl, by kernel_rfl, by kernel_rfl, trivial⟩, hs.pk (.c d0 (.c d1 (.c d1 (.c d1 .n))))⟩
   ·rintro ρ h ⟨x91, x96, a92, p93, n94, a97, p98, n99, I, rfl, hf, hs⟩
    have H := HR101
    try dsimp only at H
    refine k_fits _ hf ?_ rfl
    obtain rfl := hs.nO d1
    obtain rfl := hs.nO d2
    replace hs := (hs.f d1)
    obtain ⟨l120, m121, H⟩ := bind_some H
    refine st 4 [] (k_op (aO (e := 5) (bytes := 1) hs ((hs.sR d1).flat flat_int) m121 ?_))
    intro a122 p123 h hs
    obtain ⟨hk, bk⟩ := hs.call tk0 (.c (qO d0) .n)
    refine k_call H (fun _ m => shutterref01_Of.calls m hk) ?_
    rintro t125 _ h H ⟨I, _, ⟨rfl, rfl, hl126⟩, hk⟩
    replace hs := bk hk ct0 rfl
    refine k_op (nA hs (List.map (Value.int .u8) (List.replicate 32 (0 : Int))) (.agg (List.map (Value.int .u8) (List.replicate 32 (0 : Int))).toArray) ?_)
    intro b127 h hs
    refine k_op (sAN (l2 := t125) hs (List.length_replicate (n := 32) (a := (0 : Int))) hl126 ?_)
    intro h hs
    obtain ⟨I, hs⟩ := hs.fA hl126
    replace hs := (hs.f d3)
    obtain ⟨l129, m130, H⟩ := bind_some H
    refine st 5 [] (k_op (aO (e := 5) (bytes := 1) hs (hs.sR d1) m130 ?_))
    intro a131 p132 h hs
    obtain ⟨hk, bk⟩ := hs.call tk0 (.c (qO d0) .n)
    refine k_call H (fun _ m => shutterref01_Of.calls m hk) ?_
    rintro t134 _ h H ⟨I, _, ⟨rfl, rfl, hl135⟩, hk⟩
    replace hs := bk hk ct0 rfl
    refine k_op (sAN (l2 := t134) (hs.f d4) (List.length_replicate (n := 32) (a := (0 : Int))) hl135 ?_)
    intro h hs
    refine st 1 [] ?_
    refine k_retQ ?_
    obtain rfl := Option.some.inj H
    exact ⟨[.agg (List.map (Value.int .u8) t134).toArray], (.cons (.agg (by kernel_rfl) (by kernel_rfl) (by kernel_rfl) ((hs.bl d0).arrSeg hl135)) .nil), I, _, ⟨rfl, rfl, hl135⟩, hs.pk .n⟩

/-! shutter/shutterref02.Tag -/
def shutterref02_Tag.m (K : Nat) (x0 : (List Int)) (x1 : (List Int)) : Option (List Int) :=
  ((shutterref02_Code.m K x0 x1).bind fun t29 => ((app [] (sub t29 0 16)).bind fun l36 => (some l36)))

theorem shutterref02_Tag.calls {B I : Gh} {h : Heap} {K : Nat} {x0 : (List Int)} {x1 : (List Int)} {a21 : Option Addr} {p22 : Nat} {n23 : Nat} {a25 : Option Addr} {p26 : Nat} {n27 : Nat} {r : (List Int)} (H : shutterref02_Tag.m K x0 x1 = some r)  :
    Fc Tryd.prog 33 #[.slice a21 n23 p22, .slice a25 n27 p26] [rR (tInt .u8) .b a21 p22 n23 x0, rR (tInt .u8) .b a25 p26 n27 x1] B I h (fun v L => ∃ (a41 : Option Addr) (p42 : Nat) (n43 : Nat), v = .slice a41 n43 p42 ∧ L = [rO (tInt .u8) .i a41 p42 n43 r]) := by
 refine fc_of fun E hs => ?_
 unfold shutterref02_Tag.m at H
 obtain rfl := hs.nR d0
 obtain rfl := hs.nR d1
 refine fn_of (args := [.slice a21 x0.length p22, .slice a25 x1.length p26]) (rs := [.tmp 4]) (N := 12) Tryd.func33 rfl rfl rfl rfl ?_
 obtain ⟨hk, bk⟩ := hs.call tk0 (.c (qB d0) (.c (qB d1) .n))
 refine st 8 [] (k_call H (fun _ m => shutterref02_Code.calls m hk) ?_)
 rintro t29 _ h H ⟨I, _, ⟨rfl, rfl, hl30⟩, hk⟩
 replace hs := bk hk ct0 rfl
 refine k_op (nA hs (List.map (Value.int .u8) (List.replicate 32 (0 : Int))) (.agg (List.map (Value.int .u8) (List.replicate 32 (0 : Int))).toArray) ?_)
 intro b31 h hs
 refine k_op (sAN (l2 := t29) hs (List.length_replicate (n := 32) (a := (0 : Int))) hl30 ?_)
 intro h hs
 refine st 3 [] (k_op (nS (e := 5) hs .i (tInt .u8) ([] : List Int) [] 1 (.int .u8 0) (Reps.int (I := (Cl.G .i E.B I)) (k := .u8) (l := [])) ?_))
 intro b32 h hs
 obtain ⟨I, hs⟩ := (hs.f d1).fA hl30
 replace hs := hs.part d0 (lo := 0) (hi := 16) (Int.le_refl 0) (by decide) (by rw [hl30]; decide)
 refine k_val (.slice (slA (some ⟨b31, 0, none⟩) 32 (Int.toNat (0 : Int)) 1) ((sub t29 0 16).length) (32 - Int.toNat (0 : Int))) (pSA (lo := 0) (hi := 16) 16 (by rw [hl30]; decide)) ?_
 replace hs := (hs.f d2)
 obtain ⟨l36, m37, H⟩ := bind_some H
 refine k_op (aO (e := 5) (bytes := 1) hs (hs.sR d1) m37 ?_)
 intro a38 p39 h hs
 refine st 2 [] ?_
 refine k_retQ ?_
 obtain rfl := Option.some.inj H
 exact ⟨_, by kernel_rfl, I, _, ⟨a38, p39, l36.length, rfl, rfl⟩, hs.pk (.c d0 .n)⟩

/-! shutter/shutterref19.Seal -/
def shutterref19_Seal.l1.m (K : Nat) (x1 : api_Frame) : Nat → (List Int) → Int → Option ((List Int))
  | 0, _, _ => none
  | k + 1, x32, x37 => (if x37 ≥ 0 then (if 0 ≤ (IntKind.u64.wrap ((w64 (8 * x37)))) then ((app x32 [(IntKind.u8.wrap ((bAnd .i64 (shr .i64 x1.Seq (IntKind.u64.wrap ((w64 (8 * x37))))) 255)))]).bind fun l50 => (shutterref19_Seal.l1.m K x1 k l50 (w64 (x37 - 1)))) else none) else (some (x32)))
def shutterref19_Seal.m (K : Nat) (x0 : (List Int)) (x1 : api_Frame) : Option (List Int) :=
  ((shutterref19_Seal.l1.m K x1 K [1, (IntKind.u8.wrap (x1.Dir))] 7).bind fun x39 => ((app x39 x1.Body).bind fun l55 => ((shutterref02_Tag.m K x0 l55).bind fun t60 => ((app l55 t60).bind fun l65 => (some l65)))))

theorem shutterref19_Seal.calls {B I : Gh} {h : Heap} {K : Nat} {x0 : (List Int)} {x1 : api_Frame} {a21 : Option Addr} {p22 : Nat} {n23 : Nat} {a25 : Option Addr} {p26 : Nat} {n27 : Nat} {r : (List Int)} (H : shutterref19_Seal.m K x0 x1 = some r)  :
    Fc Tryd.prog 17 #[.slice a21 n23 p22, .agg #[.int .i64 x1.Dir, .int .i64 x1.Seq, .slice a25 n27 p26]] [rR (tInt .u8) .b a21 p22 n23 x0, rR (tInt .u8) .b a25 p26 n27 x1.Body] B I h (fun v L => ∃ (a70 : Option Addr) (p71 : Nat) (n72 : Nat), v = .slice a70 n72 p71 ∧ L = [rO (tInt .u8) .i a70 p71 n72 r]) := by
 refine fc_of fun E hs => ?_
 unfold shutterref19_Seal.m at H
 obtain rfl := hs.nR d0
 obtain rfl := hs.nR d1
 refine fn_of (args := [.slice a21 x0.length p22, .agg #[.int .i64 x1.Dir, .int .i64 x1.Seq, .slice a25 x1.Body.length p26]]) (rs := [.tmp 4]) (N := 35) Tryd.func17 rfl rfl rfl rfl ?_
 refine st 2 [] (k_op (nB hs [.int .i64 x1.Dir, .int .i64 x1.Seq, .slice a25 x1.Body.length p26] ?_))
 intro b29 h hs
 refine st 5 [] (k_op (lB (hs.bl d0) 0 rfl ?_))
 refine st 1 [] (k_op (nS (e := 5) hs .i (tInt .u8) ([1, (IntKind.u8.wrap (x1.Dir))] : List Int) [.int .u8 1, .int .u8 (IntKind.u8.wrap (x1.Dir))] 1 (.int .u8 0) (Reps.int (I := (Cl.G .i E.B I)) (k := .u8) (l := [1, (IntKind.u8.wrap (x1.Dir))])) ?_))
 intro b30 h hs
 refine st 8 [] ?_
 obtain ⟨s38, m45, HR44⟩ := bind_some H
 refine k_loop 0 (fun k' ρ h => ∃ (x32 : List Int) (x37 : Int) (a33 : Option Addr) (p34 : Nat) (n35 : Nat) (I : Gh), shutterref19_Seal.l1.m K x1 k' x32 x37 = some s38 ∧ Fits [(0, .slice a21 x0.length p22), (3, .pointer (some ⟨b29, 0, none⟩)), (5, .slice a33 n35 p34), (6, .int .i64 x37)] ρ ∧ St E [rR (tInt .u8) .b a21 p22 x0.length x0, rO (tInt .u8) .i a33 p34 n35 x32, rR (tInt .u8) .b a25 p26 x1.Body.length x1.Body, rB b29 [.int .i64 x1.Dir, .int .i64 x1.Seq, .slice a25 x1.Body.length p26] 30] I h) (fun ρ h => ∃ (x39 : List Int) (a40 : Option Addr) (p41 : Nat) (n42 : Nat) (I : Gh), x39 = s38 ∧ Fits [(0, .slice a21 x0.length p22), (3, .pointer (some ⟨b29, 0, none⟩)), (5, .slice a40 n42 p41)] ρ ∧ St E [rR (tInt .u8) .b a21 p22 x0.length x0, rO (tInt .u8) .i a40 p41 n42 x39, rR (tInt .u8) .b a25 p26 x1.Body.length x1.Body, rB b29 [.int .i64 x1.Dir, .int .i64 x1.Seq, .slice a25 x1.Body.length p26] 30] I h) K ⟨[1, (IntKind.u8.wrap (x1.Dir))], 7, (some ⟨b30, 0, none⟩), 2, 2, I, m45, ⟨by kernel_rfl, by kernel_rfl, by kernel_rfl, by kernel_rfl, trivial⟩, hs.pk (.c d2 (.c d0 (.c d1 (.c d0 .n))))⟩ ?_ rfl ?_
 ·clear HR44 m45 H
  rintro k' ρ h ⟨x32, x37, a33, p34, n35, I, H, hf, hs⟩
  cases k' with
  | zero => cases H
  | succ k =>
   rw [shutterref19_Seal.l1.m] at H
   refine k_fits _ hf ?_ rfl
   obtain rfl := hs.nO d1
   refine st 4 [] (k_ite H (fun c46 H => ?_) (fun c46 H => ?_))
   ·refine st 8 [true] (k_op (lB (hs.bl d3) 1 rfl ?_))
    obtain ⟨c47, H⟩ := guard_pos H
    refine st 3 [] (k_val (.int .i64 (shr .i64 x1.Seq (IntKind.u64.wrap ((w64 (8 * x37)))))) (pr_shr (k := .i64) (yk := .u64) (a := x1.Seq) (b := (IntKind.u64.wrap ((w64 (8 * x37))))) (by kernel_rfl) (by kernel_rfl) c47) ?_)
    refine st 2 [] (k_op (nS (e := 5) hs .i (tInt .u8) ([(IntKind.u8.wrap ((bAnd .i64 (shr .i64 x1.Seq (IntKind.u64.wrap ((w64 (8 * x37))))) 255)))] : List Int) [.int .u8 (IntKind.u8.wrap ((bAnd .i64 (shr .i64 x1.Seq (IntKind.u64.wrap ((w64 (8 * x37))))) 255)))] 1 (.int .u8 0) (Reps.int (I := (Cl.G .i E.B I)) (k := .u8) (l := [(IntKind.u8.wrap ((bAnd .i64 (shr .i64 x1.Seq (IntKind.u64.wrap ((w64 (8 * x37))))) 255)))])) ?_))
    intro b48 h hs
    replace hs := (hs.f d2)
    obtain ⟨l50, m51, H⟩ := bind_some H
    refine k_op (aO (e := 5) (bytes := 1) hs (hs.sO d1) m51 ?_)
    intro a52 p53 h hs
    refine st 8 [] ?_
    exact k_endL ⟨k, Nat.lt_succ_self _, l50, (w64 (x37 - 1)), a52, p53, l50.length, I, H, ⟨by kernel_rfl, by kernel_rfl, by kernel_rfl, by kernel_rfl, trivial⟩, hs.pk (.c d2 (.c d0 (.c d1 (.c d1 .n))))⟩
   ·refine st 2 [false] ?_
    refine k_out rfl ?_
    obtain rfl := Option.some.inj H
    exact xE ⟨x32, a33, p34, x32.length, I, rfl, ⟨by kernel_rfl, by kernel_rfl, by kernel_rfl, trivial⟩, hs.pk (.c d0 (.c d0 (.c d0 (.c d0 .n))))⟩
 ·rintro ρ h ⟨x39, a40, p41, n42, I, rfl, hf, hs⟩
  have H := HR44
  try dsimp only at H
  refine k_fits _ hf ?_ rfl
  obtain rfl := hs.nO d1
  refine st 4 [] (k_op (lB (hs.bl d3) 2 rfl ?_))
  replace hs := (hs.f d1)
  obtain ⟨l55, m56, H⟩ := bind_some H
  refine k_op (aO (e := 5) (bytes := 1) hs ((hs.sR d2).flat flat_int) m56 ?_)
  intro a57 p58 h hs
  obtain ⟨hk, bk⟩ := hs.call tk0 (.c (qB d1) (.c (qO d0) .n))
  refine st 7 [] (k_call H (fun _ m => shutterref02_Tag.calls m hk) ?_)
  rintro t60 _ h H ⟨I, _, ⟨a61, p62, n63, rfl, rfl⟩, hk⟩
  replace hs := bk hk ct1 rfl
  obtain rfl := hs.nO d0
  replace hs := (hs.f d1)
  obtain ⟨l65, m66, H⟩ := bind_some H
  refine k_op (aO (e := 5) (bytes := 1) hs (hs.sO d1) m66 ?_)
  intro a67 p68 h hs
  refine st 2 [] ?_
  refine k_retQ ?_
  obtain rfl := Option.some.inj H
  exact ⟨_, by kernel_rfl, I, _, ⟨a67, p68, l65.length, rfl, rfl⟩, hs.pk (.c d0 .n)⟩

/-! shutter/shutterlaw19.FrameSeals -/
def shutterlaw19_FrameSeals.m (K : Nat) (x0 : (List Int)) (x1 : api_Frame) : Option Bool :=
  ((shutterlaw19_awake.m K).bind fun t30 => bif t30 then (if (x0.length : Int) > 200 then ((shutterlaw19_awake.m K).bind fun t32 => (some t32)) else (if (x1.Body.length : Int) > 1000 then ((shutterlaw19_awake.m K).bind fun t34 => (some t34)) else ((frame_Seal.m K x0 x1).bind fun t35 => ((shutterref19_Wrong.m x1).bind fun t42 => (if t42 = 0 then (if t35.2 = GoErr.nil then ((shutterref19_Seal.m K x0 x1).bind fun t47 => ((shutterref01_Same.m K t35.1 t47).bind fun t52 => (some t52))) else (some false)) else ((api_Code.m t35.2).bind fun t53 => (if t53 = t42 then (some ((t35.1.length : Int) == 0)) else (some false)))))))) else ((shutterlaw19_awake.m K).bind fun t55 => (some t55)))

theorem shutterlaw19_FrameSeals.calls {B I : Gh} {h : Heap} {K : Nat} {x0 : (List Int)} {x1 : api_Frame} {a21 : Option Addr} {p22 : Nat} {n23 : Nat} {a25 : Option Addr} {p26 : Nat} {n27 : Nat} {r : Bool} (H : shutterlaw19_FrameSeals.m K x0 x1 = some r)  :
    Fc Tryd.prog 4 #[.slice a21 n23 p22, .agg #[.int .i64 x1.Dir, .int .i64 x1.Seq, .slice a25 n27 p26]] [rR (tInt .u8) .b a21 p22 n23 x0, rR (tInt .u8) .b a25 p26 n27 x1.Body, rG] B I h (fun v L => v = .bool r ∧ L = []) := by
 refine fc_of fun E hs => ?_
 unfold shutterlaw19_FrameSeals.m at H
 obtain rfl := hs.nR d0
 obtain rfl := hs.nR d1
 refine fn_of (args := [.slice a21 x0.length p22, .agg #[.int .i64 x1.Dir, .int .i64 x1.Seq, .slice a25 x1.Body.length p26]]) (rs := [.tmp 4]) (N := 50) Tryd.func4 rfl rfl rfl rfl ?_
 refine st 2 [] (k_op (nB hs [.int .i64 x1.Dir, .int .i64 x1.Seq, .slice a25 x1.Body.length p26] ?_))
 intro b29 h hs
 obtain ⟨hk, bk⟩ := hs.call tk0 (.c (gK d3) .n)
 refine st 5 [] (k_call H (fun _ m => shutterlaw19_awake.calls m hk) ?_)
 rintro t30 _ h H ⟨I, _, ⟨rfl, rfl⟩, hk⟩
 replace hs := bk hk ct0 rfl
 cases t30
 ·rw [cond_false] at H
  obtain ⟨hk, bk⟩ := hs.call tk0 (.c (gK d3) .n)
  refine st 16 [true] (k_call H (fun _ m => shutterlaw19_awake.calls m hk) ?_)
  rintro t55 _ h H ⟨I, _, ⟨rfl, rfl⟩, hk⟩
  replace hs := bk hk ct0 rfl
  refine st 2 [] ?_
  refine k_retQ ?_
  obtain rfl := Option.some.inj H
  exact ⟨_, by kernel_rfl, I, _, ⟨rfl, rfl⟩, hs.pk .n⟩
 ·rw [cond_true] at H
  refine st 4 [] (k_ite H (fun c31 H => ?_) (fun c31 H => ?_))
  ·obtain ⟨hk, bk⟩ := hs.call tk0 (.c (gK d3) .n)
   refine st 11 [true] (k_call H (fun _ m => shutterlaw19_awake.calls m hk) ?_)
   rintro t32 _ h H ⟨I, _, ⟨rfl, rfl⟩, hk⟩
   replace hs := bk hk ct0 rfl
   refine st 2 [] ?_
   refine k_retQ ?_
   obtain rfl := Option.some.inj H
   exact ⟨_, by kernel_rfl, I, _, ⟨rfl, rfl⟩, hs.pk .n⟩
  ·refine st 3 [] (k_op (lB (hs.bl d0) 2 rfl ?_))
   refine st 1 [] (k_ite H (fun c33 H => ?_) (fun c33 H => ?_))
   ·obtain ⟨hk, bk⟩ := hs.call tk0 (.c (gK d3) .n)
    refine st 5 [true] (k_call H (fun _ m => shutterlaw19_awake.calls m hk) ?_)
    rintro t34 _ h H ⟨I, _, ⟨rfl, rfl⟩, hk⟩
    replace hs := bk hk ct0 rfl
    refine st 2 [] ?_
    refine k_retQ ?_
    obtain rfl := Option.some.inj H
    exact ⟨_, by kernel_rfl, I, _, ⟨rfl, rfl⟩, hs.pk .n⟩
   ·refine st 7 [false] (k_op (lN (hs.bl d0) 0 3 ?_))
    obtain ⟨hk, bk⟩ := hs.call tk0 (.c (qB d1) (.c (qB d2) .n))
    refine k_call H (fun _ m => frame_Seal.calls m hk) ?_
    rintro t35 _ h H ⟨I, _, ⟨a36, p37, n38, v40, rfl, rfl⟩, hk⟩
    replace hs := bk hk ct2 rfl
    obtain rfl := hs.nO d0
    refine st 8 [] (k_op (lN (hs.bl d2) 0 3 ?_))
    obtain ⟨hk, bk⟩ := hs.call tk0 (.c (qB d4) .n)
    refine k_call H (fun _ m => shutterref19_Wrong.calls m hk) ?_
    rintro t42 _ h H ⟨I, _, ⟨rfl, rfl⟩, hk⟩
    replace hs := bk hk ct0 rfl
    refine st 6 [] (k_iteN H (fun c43 H => ?_) (fun c43 H => ?_))
    ·rcases (hs.er d1).cases with ⟨c44, rfl⟩ | ⟨c44, t45, u46, rfl⟩
     ·rw [if_pos c44] at H
      refine st 10 [false] (k_op (lN (hs.bl d2) 0 3 ?_))
      obtain ⟨hk, bk⟩ := hs.call tk0 (.c (qB d3) (.c (qB d4) .n))
      refine k_call H (fun _ m => shutterref19_Seal.calls m hk) ?_
      rintro t47 _ h H ⟨I, _, ⟨a48, p49, n50, rfl, rfl⟩, hk⟩
      replace hs := bk hk ct1 rfl
      obtain rfl := hs.nO d0
      refine k_call H (fun _ m => shutterref01_Same.calls m (hs.sO d1) (hs.sO d0)) ?_
      rintro t52 _ _ H ⟨rfl, rfl⟩
      refine st 3 [] ?_
      refine k_retQ ?_
      obtain rfl := Option.some.inj H
      exact ⟨_, by kernel_rfl, I, _, ⟨rfl, rfl⟩, hs.pk .n⟩
     ·rw [if_neg c44] at H
      refine st 16 [false] ?_
      refine k_retQ ?_
      obtain rfl := Option.some.inj H
      exact ⟨_, by kernel_rfl, I, _, ⟨rfl, rfl⟩, hs.pk .n⟩
    ·obtain ⟨hk, bk⟩ := hs.call tk0 (.c (xI d1) (.c (gK d5) .n))
     refine st 5 [true] (k_call H (fun _ m => api_Code.calls m hk) ?_)
     rintro t53 _ h H ⟨I, _, ⟨rfl, rfl⟩, hk⟩
     replace hs := bk hk ct0 rfl
     refine st 1 [] (k_ite H (fun c54 H => ?_) (fun c54 H => ?_))
     ·refine st 7 [] ?_
      refine k_retQ ?_
      obtain rfl := Option.some.inj H
      exact ⟨_, by kernel_rfl, I, _, ⟨rfl, rfl⟩, hs.pk .n⟩
     ·refine st 7 [] ?_
      refine k_retQ ?_
      obtain rfl := Option.some.inj H
      exact ⟨_, by kernel_rfl, I, _, ⟨rfl, rfl⟩, hs.pk .n⟩

/-! shutter/shutterref19.Same -/
def shutterref19_Same.m (K : Nat) (x0 : api_Frame) (x1 : api_Frame) : Option Bool :=
  (if x0.Dir = x1.Dir then (if x0.Seq = x1.Seq then ((shutterref01_Same.m K x0.Body x1.Body).bind fun t33 => (some t33)) else (some false)) else (some false))

theorem shutterref19_Same.calls {B I : Gh} {h : Heap} {K : Nat} {x0 : api_Frame} {x1 : api_Frame} {a21 : Option Addr} {p22 : Nat} {n23 : Nat} {a25 : Option Addr} {p26 : Nat} {n27 : Nat} {r : Bool} (H : shutterref19_Same.m K x0 x1 = some r)  :
    Fc Tryd.prog 19 #[.agg #[.int .i64 x0.Dir, .int .i64 x0.Seq, .slice a21 n23 p22], .agg #[.int .i64 x1.Dir, .int .i64 x1.Seq, .slice a25 n27 p26]] [rR (tInt .u8) .b a21 p22 n23 x0.Body, rR (tInt .u8) .b a25 p26 n27 x1.Body] B I h (fun v L => v = .bool r ∧ L = []) := by
 refine fc_of fun E hs => ?_
 unfold shutterref19_Same.m at H
 obtain rfl := hs.nR d0
 obtain rfl := hs.nR d1
 refine fn_of (args := [.agg #[.int .i64 x0.Dir, .int .i64 x0.Seq, .slice a21 x0.Body.length p22], .agg #[.int .i64 x1.Dir, .int .i64 x1.Seq, .slice a25 x1.Body.length p26]]) (rs := [.tmp 4]) (N := 24) Tryd.func19 rfl rfl rfl rfl ?_
 refine st 2 [] (k_op (nB hs [.int .i64 x0.Dir, .int .i64 x0.Seq, .slice a21 x0.Body.length p22] ?_))
 intro b29 h hs
 refine k_op (nB hs [.int .i64 x1.Dir, .int .i64 x1.Seq, .slice a25 x1.Body.length p26] ?_)
 intro b30 h hs
 refine st 5 [] (k_op (lB (hs.bl d1) 0 rfl ?_))
 refine st 1 [] (k_op (lB (hs.bl d0) 0 rfl ?_))
 refine k_ite H (fun c31 H => ?_) (fun c31 H => ?_)
 ·refine st 2 [] (k_op (lB (hs.bl d1) 1 rfl ?_))
  refine st 1 [] (k_op (lB (hs.bl d0) 1 rfl ?_))
  refine k_ite H (fun c32 H => ?_) (fun c32 H => ?_)
  ·refine st 3 [] (k_op (lB (hs.bl d1) 2 rfl ?_))
   refine st 1 [] (k_op (lB (hs.bl d0) 2 rfl ?_))
   refine k_call H (fun _ m => shutterref01_Same.calls m (hs.sR d2) (hs.sR d3)) ?_
   rintro t33 _ _ H ⟨rfl, rfl⟩
   refine st 3 [] ?_
   refine k_retQ ?_
   obtain rfl := Option.some.inj H
   exact ⟨_, by kernel_rfl, I, _, ⟨rfl, rfl⟩, hs.pk .n⟩
  ·refine st 10 [] ?_
   refine k_retQ ?_
   obtain rfl := Option.some.inj H
   exact ⟨_, by kernel_rfl, I, _, ⟨rfl, rfl⟩, hs.pk .n⟩
 ·refine st 16 [] ?_
  refine k_retQ ?_
  obtain rfl := Option.some.inj H
  exact ⟨_, by kernel_rfl, I, _, ⟨rfl, rfl⟩, hs.pk .n⟩

/-! shutter/shutterlaw19.FrameBack -/
def shutterlaw19_FrameBack.m (K : Nat) (x0 : (List Int)) (x1 : api_Frame) (x2 : (List Int)) (x3 : Int) : Option Bool :=
  ((shutterlaw19_awake.m K).bind fun t34 => bif t34 then (if (x0.length : Int) > 200 then ((shutterlaw19_awake.m K).bind fun t36 => (some t36)) else (if (x1.Body.length : Int) > 1000 then ((shutterlaw19_awake.m K).bind fun t38 => (some t38)) else (if (x2.length : Int) > 1000 then ((shutterlaw19_awake.m K).bind fun t40 => (some t40)) else ((frame_Seal.m K x0 x1).bind fun t41 => (letJ (α := Option Bool) ((frame_Open.m K x0 x3 x2).bind fun t78 => (if t78.2 = GoErr.nil then ((frame_Seal.m K x0 t78.1).bind fun t89 => (if t89.2 = GoErr.nil then ((shutterref01_Same.m K t89.1 x2).bind fun t99 => (some t99)) else (some false))) else ((shutterref19_Same.m K t78.1 (⟨0, 0, []⟩ : api_Frame)).bind fun t100 => (some t100)))) fun (j77 : Option Bool) => (letJ (α := Bool → Option Bool) (fun (x51 : Bool) => (bif x51 then ((frame_Open.m K x0 x1.Dir t41.1).bind fun t53 => ((frame_Open.m K x0 (w64 (1 - x1.Dir)) t41.1).bind fun t61 => (if t53.2 = GoErr.nil then ((shutterref19_Same.m K t53.1 x1).bind fun t72 => bif t72 then ((api_Code.m t61.2).bind fun t73 => (if t73 = 13 then (if (t41.1.length : Int) = (w64 ((x1.Body.length : Int) + 26)) then j77 else (some false)) else (some false))) else (some false)) else (some false)))) else j77)) fun (j52 : Bool → Option Bool) => (if t41.2 = GoErr.nil then (j52 true) else (j52 false)))))))) else ((shutterlaw19_awake.m K).bind fun t102 => (some t102)))

theorem shutterlaw19_FrameBack.calls {B I : Gh} {h : Heap} {K : Nat} {x0 : (List Int)} {x1 : api_Frame} {x2 : (List Int)} {x3 : Int} {a21 : Option Addr} {p22 : Nat} {n23 : Nat} {a25 : Option Addr} {p26 : Nat} {n27 : Nat} {a29 : Option Addr} {p30 : Nat} {n31 : Nat} {r : Bool} (H : shutterlaw19_FrameBack.m K x0 x1 x2 x3 = some r)  :
    Fc Tryd.prog 5 #[.slice a21 n23 p22, .agg #[.int .i64 x1.Dir, .int .i64 x1.Seq, .slice a25 n27 p26], .slice a29 n31 p30, .int .i64 x3] [rR (tInt .u8) .b a21 p22 n23 x0, rR (tInt .u8) .b a25 p26 n27 x1.Body, rR (tInt .u8) .b a29 p30 n31 x2, rG] B I h (fun v L => v = .bool r ∧ L = []) := by
 refine fc_of fun E hs => ?_
 unfold shutterlaw19_FrameBack.m at H
 obtain rfl := hs.nR d0
 obtain rfl := hs.nR d1
 obtain rfl := hs.nR d2
 refine fn_of (args := [.slice a21 x0.length p22, .agg #[.int .i64 x1.Dir, .int .i64 x1.Seq, .slice a25 x1.Body.length p26], .slice a29 x2.length p30, .int .i64 x3]) (rs := [.tmp 8]) (N := 110) Tryd.func5 rfl rfl rfl rfl ?_
 refine st 2 [] (k_op (nB hs [.int .i64 x1.Dir, .int .i64 x1.Seq, .slice a25 x1.Body.length p26] ?_))
 intro b33 h hs
 obtain ⟨hk, bk⟩ := hs.call tk0 (.c (gK d4) .n)
 refine st 5 [] (k_call H (fun _ m => shutterlaw19_awake.calls m hk) ?_)
 rintro t34 _ h H ⟨I, _, ⟨rfl, rfl⟩, hk⟩
 replace hs := bk hk ct0 rfl
 cases t34
 ·rw [cond_false] at H
  obtain ⟨hk, bk⟩ := hs.call tk0 (.c (gK d4) .n)
  refine st 21 [true] (k_call H (fun _ m => shutterlaw19_awake.calls m hk) ?_)
  rintro t102 _ h H ⟨I, _, ⟨rfl, rfl⟩, hk⟩
  replace hs := bk hk ct0 rfl
  refine st 2 [] ?_
  refine k_retQ ?_
  obtain rfl := Option.some.inj H
  exact ⟨_, by kernel_rfl, I, _, ⟨rfl, rfl⟩, hs.pk .n⟩
 ·rw [cond_true] at H
  refine st 4 [] (k_ite H (fun c35 H => ?_) (fun c35 H => ?_))
  ·obtain ⟨hk, bk⟩ := hs.call tk0 (.c (gK d4) .n)
   refine st 16 [true] (k_call H (fun _ m => shutterlaw19_awake.calls m hk) ?_)
   rintro t36 _ h H ⟨I, _, ⟨rfl, rfl⟩, hk⟩
   replace hs := bk hk ct0 rfl
   refine st 2 [] ?_
   refine k_retQ ?_
   obtain rfl := Option.some.inj H
   exact ⟨_, by kernel_rfl, I, _, ⟨rfl, rfl⟩, hs.pk .n⟩
  ·refine st 3 [] (k_op (lB (hs.bl d0) 2 rfl ?_))
   refine st 1 [] (k_ite H (fun c37 H => ?_) (fun c37 H => ?_))
   ·obtain ⟨hk, bk⟩ := hs.call tk0 (.c (gK d4) .n)
    refine st 10 [true] (k_call H (fun _ m => shutterlaw19_awake.calls m hk) ?_)
    rintro t38 _ h H ⟨I, _, ⟨rfl, rfl⟩, hk⟩
    replace hs := bk hk ct0 rfl
    refine st 2 [] ?_
    refine k_retQ ?_
    obtain rfl := Option.some.inj H
    exact ⟨_, by kernel_rfl, I, _, ⟨rfl, rfl⟩, hs.pk .n⟩
   ·refine st 4 [] (k_ite H (fun c39 H => ?_) (fun c39 H => ?_))
    ·obtain ⟨hk, bk⟩ := hs.call tk0 (.c (gK d4) .n)
     refine st 5 [true] (k_call H (fun _ m => shutterlaw19_awake.calls m hk) ?_)
     rintro t40 _ h H ⟨I, _, ⟨rfl, rfl⟩, hk⟩
     replace hs := bk hk ct0 rfl
     refine st 2 [] ?_
     refine k_retQ ?_
     obtain rfl := Option.some.inj H
     exact ⟨_, by kernel_rfl, I, _, ⟨rfl, rfl⟩, hs.pk .n⟩
    ·refine st 7 [false] (k_op (lN (hs.bl d0) 0 3 ?_))
     obtain ⟨hk, bk⟩ := hs.call tk0 (.c (qB d1) (.c (qB d2) .n))
     refine k_call H (fun _ m => frame_Seal.calls m hk) ?_
     rintro t41 _ h H ⟨I, _, ⟨a42, p43, n44, v46, rfl, rfl⟩, hk⟩
     replace hs := bk hk ct2 rfl
     obtain rfl := hs.nO d0
     refine st 7 [] ?_
     obtain ⟨j77, e101, H⟩ := letJ_some H
     refine k_join (fun ρ h => ∃ (I : Gh), j77 = some r ∧ Fits [(0, .slice a21 x0.length p22), (2, .slice a29 x2.length p30), (3, .int .i64 x3)] ρ ∧ St E [rR (tInt .u8) .b a21 p22 x0.length x0, rR (tInt .u8) .b a29 p30 x2.length x2, rG] I h) ?_ ?_
     ·refine st 1 [] ?_
      obtain ⟨j52, e76, H⟩ := letJ_some H
      refine k_join (fun ρ h => ∃ (x51 : Bool) (I : Gh), j52 x51 = some r ∧ Fits [(0, .slice a21 x0.length p22), (2, .slice a29 x2.length p30), (3, .int .i64 x3), (5, .pointer (some ⟨b33, 0, none⟩)), (9, .slice a42 t41.1.length p43), (45, .bool x51)] ρ ∧ St E [rR (tInt .u8) .b a21 p22 x0.length x0, rR (tInt .u8) .b a29 p30 x2.length x2, rO (tInt .u8) .i a42 p43 t41.1.length t41.1, rR (tInt .u8) .b a25 p26 x1.Body.length x1.Body, rB b33 [.int .i64 x1.Dir, .int .i64 x1.Seq, .slice a25 x1.Body.length p26] 30, rG] I h) ?_ ?_
      ·rcases (hs.er d1).cases with ⟨c48, rfl⟩ | ⟨c48, t49, u50, rfl⟩
       ·rw [if_pos c48] at H
        refine st 4 [] ?_
        exact k_end ⟨true, I, H, ⟨by kernel_rfl, by kernel_rfl, by kernel_rfl, by kernel_rfl, by kernel_rfl, by kernel_rfl, trivial⟩, hs.pk (.c d3 (.c d4 (.c d0 (.c d2 (.c d1 (.c d1 .n))))))⟩
       ·rw [if_neg c48] at H
        refine st 4 [] ?_
        exact k_end ⟨false, I, H, ⟨by kernel_rfl, by kernel_rfl, by kernel_rfl, by kernel_rfl, by kernel_rfl, by kernel_rfl, trivial⟩, hs.pk (.c d3 (.c d4 (.c d0 (.c d2 (.c d1 (.c d1 .n))))))⟩
      ·clear H
       rintro ρ h ⟨x51, I, H, hf, hs⟩
       refine k_fits _ hf ?_ rfl
       subst e76
       try dsimp only at H
       cases x51
       ·rw [cond_false] at H
        refine st 2 [false] ?_
        exact k_end ⟨I, H, ⟨by kernel_rfl, by kernel_rfl, by kernel_rfl, trivial⟩, hs.pk (.c d0 (.c d0 (.c d3 .n)))⟩
       ·rw [cond_true] at H
        refine st 5 [true] (k_op (lB (hs.bl d4) 0 rfl ?_))
        obtain ⟨hk, bk⟩ := hs.call tk0 (.c (qB d0) (.c (qO d2) .n))
        refine st 1 [] (k_call H (fun _ m => frame_Open.calls m hk) ?_)
        rintro t53 _ h H ⟨I, _, ⟨a54, p55, n56, v58, rfl, rfl⟩, hk⟩
        replace hs := bk hk ct2 rfl
        obtain rfl := hs.nO d0
        refine st 3 [] (k_op (nA hs [.int .i64 0, .int .i64 0, .slice none 0 0] (.agg #[.int .i64 0, .int .i64 0, .slice none 0 0]) ?_))
        intro b60 h hs
        refine k_op (sN hs 0 [.int .i64 t53.1.Dir, .int .i64 t53.1.Seq, .slice a54 t53.1.Body.length p55] [.int .i64 t53.1.Dir, .int .i64 t53.1.Seq, .slice a54 t53.1.Body.length p55] (ones_of rfl) ?_)
        intro h hs
        refine st 6 [] (k_op (lB (hs.bl d7) 0 rfl ?_))
        obtain ⟨hk, bk⟩ := hs.call tk0 (.c (qB d3) (.c (qO d5) .n))
        refine st 2 [] (k_call H (fun _ m => frame_Open.calls m hk) ?_)
        rintro t61 _ h H ⟨I, _, ⟨a62, p63, n64, v66, rfl, rfl⟩, hk⟩
        replace hs := bk hk ct2 rfl
        obtain rfl := hs.nO d0
        refine st 3 [] (k_op (nA hs [.int .i64 0, .int .i64 0, .slice none 0 0] (.agg #[.int .i64 0, .int .i64 0, .slice none 0 0]) ?_))
        intro b68 h hs
        refine k_op (sN hs 0 [.int .i64 t61.1.Dir, .int .i64 t61.1.Seq, .slice a62 t61.1.Body.length p63] [.int .i64 t61.1.Dir, .int .i64 t61.1.Seq, .slice a62 t61.1.Body.length p63] (ones_of rfl) ?_)
        intro h hs
        rcases (hs.er d5).cases with ⟨c69, rfl⟩ | ⟨c69, t70, u71, rfl⟩
        ·rw [if_pos c69] at H
         refine st 7 [] (k_op (lN (hs.bl d3) 0 3 ?_))
         refine k_op (lN (hs.bl d10) 0 3 ?_)
         obtain ⟨hk, bk⟩ := hs.call tk0 (.c (qO d4) (.c (qB d9) .n))
         refine k_call H (fun _ m => shutterref19_Same.calls m hk) ?_
         rintro t72 _ h H ⟨I, _, ⟨rfl, rfl⟩, hk⟩
         replace hs := bk hk ct0 rfl
         cases t72
         ·rw [cond_false] at H
          refine st 22 [true] ?_
          refine k_retQ (krJ ?_)
          obtain rfl := Option.some.inj H
          exact ⟨_, by kernel_rfl, I, _, ⟨rfl, rfl⟩, hs.pk .n⟩
         ·rw [cond_true] at H
          obtain ⟨hk, bk⟩ := hs.call tk0 (.c (xI d2) (.c (gK d11) .n))
          refine st 4 [] (k_call H (fun _ m => api_Code.calls m hk) ?_)
          rintro t73 _ h H ⟨I, _, ⟨rfl, rfl⟩, hk⟩
          replace hs := bk hk ct0 rfl
          refine k_iteN H (fun c74 H => ?_) (fun c74 H => ?_)
          ·refine st 5 [] (k_op (lB (hs.bl d10) 2 rfl ?_))
           refine st 2 [] (k_iteN H (fun c75 H => ?_) (fun c75 H => ?_))
           ·refine st 4 [false] ?_
            exact k_end ⟨I, H, ⟨by kernel_rfl, by kernel_rfl, by kernel_rfl, trivial⟩, hs.pk (.c d6 (.c d6 (.c d9 .n)))⟩
           ·refine st 7 [true] ?_
            refine k_retQ (krJ ?_)
            obtain rfl := Option.some.inj H
            exact ⟨_, by kernel_rfl, I, _, ⟨rfl, rfl⟩, hs.pk .n⟩
          ·refine st 16 [true] ?_
           refine k_retQ (krJ ?_)
           obtain rfl := Option.some.inj H
           exact ⟨_, by kernel_rfl, I, _, ⟨rfl, rfl⟩, hs.pk .n⟩
        ·rw [if_neg c69] at H
         refine st 32 [true] ?_
         refine k_retQ (krJ ?_)
         obtain rfl := Option.some.inj H
         exact ⟨_, by kernel_rfl, I, _, ⟨rfl, rfl⟩, hs.pk .n⟩
     ·clear H
      rintro ρ h ⟨I, H, hf, hs⟩
      refine k_fits _ hf ?_ rfl
      subst e101
      try dsimp only at H
      obtain ⟨hk, bk⟩ := hs.call tk0 (.c (qB d0) (.c (qB d1) .n))
      refine st 5 [] (k_call H (fun _ m => frame_Open.calls m hk) ?_)
      rintro t78 _ h H ⟨I, _, ⟨a79, p80, n81, v83, rfl, rfl⟩, hk⟩
      replace hs := bk hk ct2 rfl
      obtain rfl := hs.nO d0
      refine st 3 [] (k_op (nA hs [.int .i64 0, .int .i64 0, .slice none 0 0] (.agg #[.int .i64 0, .int .i64 0, .slice none 0 0]) ?_))
      intro b85 h hs
      refine k_op (sN hs 0 [.int .i64 t78.1.Dir, .int .i64 t78.1.Seq, .slice a79 t78.1.Body.length p80] [.int .i64 t78.1.Dir, .int .i64 t78.1.Seq, .slice a79 t78.1.Body.length p80] (ones_of rfl) ?_)
      intro h hs
      rcases (hs.er d2).cases with ⟨c86, rfl⟩ | ⟨c86, t87, u88, rfl⟩
      ·rw [if_pos c86] at H
       refine st 13 [false] (k_op (lN (hs.bl d0) 0 3 ?_))
       obtain ⟨hk, bk⟩ := hs.call tk0 (.c (qB d3) (.c (qO d1) .n))
       refine k_call H (fun _ m => frame_Seal.calls m hk) ?_
       rintro t89 _ h H ⟨I, _, ⟨a90, p91, n92, v94, rfl, rfl⟩, hk⟩
       replace hs := bk hk ct2 rfl
       obtain rfl := hs.nO d0
       rcases (hs.er d1).cases with ⟨c96, rfl⟩ | ⟨c96, t97, u98, rfl⟩
       ·rw [if_pos c96] at H
        refine st 13 [] (k_call H (fun _ m => shutterref01_Same.calls m ((hs.sO d0)).up1 (hs.sR d6)) ?_)
        rintro t99 _ _ H ⟨rfl, rfl⟩
        refine st 3 [] ?_
        refine k_retQ ?_
        obtain rfl := Option.some.inj H
        exact ⟨_, by kernel_rfl, I, _, ⟨rfl, rfl⟩, hs.pk .n⟩
       ·rw [if_neg c96] at H
        refine st 17 [] ?_
        refine k_retQ ?_
        obtain rfl := Option.some.inj H
        exact ⟨_, by kernel_rfl, I, _, ⟨rfl, rfl⟩, hs.pk .n⟩
      ·rw [if_neg c86] at H
       refine st 11 [true] (k_op (lN (hs.bl d0) 0 3 ?_))
       obtain ⟨hk, bk⟩ := hs.call tk0 (.c (qO d1) (.c qN .n))
       refine st 1 [] (k_call H (fun _ m => shutterref19_Same.calls m hk) ?_)
       rintro t100 _ h H ⟨I, _, ⟨rfl, rfl⟩, hk⟩
       replace hs := bk hk ct0 rfl
       refine st 2 [] ?_
       refine k_retQ ?_
       obtain rfl := Option.some.inj H
       exact ⟨_, by kernel_rfl, I, _, ⟨rfl, rfl⟩, hs.pk .n⟩

/-! shutter/shutterref19.Open -/
def shutterref19_Open.l1.m (K : Nat) (x2 : (List Int)) : Nat → Int → Int → Option (Int)
  | 0, _, _ => none
  | k + 1, x47, x48 => (if x48 < 10 then (if 0 ≤ x48 then (if x48 < (x2.length : Int) then (shutterref19_Open.l1.m K x2 k (w64 ((w64 (x47 * 256)) + (w64 ((at_ x2 x48))))) (w64 (x48 + 1))) else none) else none) else (some (x47)))
def shutterref19_Open.m (K : Nat) (x0 : (List Int)) (x1 : Int) (x2 : (List Int)) : Option (api_Frame × Int) :=
  (if (x2.length : Int) < 26 then (some ((⟨0, 0, []⟩ : api_Frame), 2)) else (if (x2.length : Int) > 512 then (some ((⟨0, 0, []⟩ : api_Frame), 6)) else (if 0 ≤ (w64 ((x2.length : Int) - 16)) then (if (w64 ((x2.length : Int) - 16)) ≤ (x2.length : Int) then ((shutterref02_Tag.m K x0 (sub x2 0 (w64 ((x2.length : Int) - 16)))).bind fun t34 => ((shutterref01_Same.m K t34 (sub x2 (w64 ((x2.length : Int) - 16)) (x2.length : Int))).bind fun t39 => bif t39 then (if 0 < (x2.length : Int) then (if (at_ x2 0) = 1 then (if 1 < (x2.length : Int) then (if (w64 ((at_ x2 1))) = x1 then (if 2 < (x2.length : Int) then (if (at_ x2 2) > 64 then (some ((⟨0, 0, []⟩ : api_Frame), 1)) else (if x1 > 1 then (some ((⟨0, 0, []⟩ : api_Frame), 1)) else ((shutterref19_Open.l1.m K x2 K 0 2).bind fun x50 => (if 10 ≤ (w64 ((x2.length : Int) - 16)) then ((app [] (sub x2 10 (w64 ((x2.length : Int) - 16)))).bind fun l60 => ((shutterref19_Wrong.m (⟨x1, x50, l60⟩ : api_Frame)).bind fun t66 => (if t66 = 0 then (some ((⟨x1, x50, l60⟩ : api_Frame), 0)) else (some ((⟨0, 0, []⟩ : api_Frame), 1))))) else none)))) else none) else (some ((⟨0, 0, []⟩ : api_Frame), 13))) else none) else (some ((⟨0, 0, []⟩ : api_Frame), 13))) else none) else (some ((⟨0, 0, []⟩ : api_Frame), 11)))) else none) else none)))

theorem shutterref19_Open.calls {B I : Gh} {h : Heap} {K : Nat} {x0 : (List Int)} {x1 : Int} {x2 : (List Int)} {a21 : Option Addr} {p22 : Nat} {n23 : Nat} {a25 : Option Addr} {p26 : Nat} {n27 : Nat} {r : (api_Frame × Int)} (H : shutterref19_Open.m K x0 x1 x2 = some r)  :
    Fc Tryd.prog 20 #[.slice a21 n23 p22, .int .i64 x1, .slice a25 n27 p26] [rR (tInt .u8) .b a21 p22 n23 x0, rR (tInt .u8) .b a25 p26 n27 x2] B I h (fun v L => ∃ (a68 : Option Addr) (p69 : Nat) (n70 : Nat), v = .tuple #[.agg #[.int .i64 r.1.Dir, .int .i64 r.1.Seq, .slice a68 n70 p69], .int .i64 r.2] ∧ L = [rO (tInt .u8) .i a68 p69 n70 r.1.Body]) := by
 refine fc_of fun E hs => ?_
 unfold shutterref19_Open.m at H
 obtain rfl := hs.nR d0
 obtain rfl := hs.nR d1
 refine fn_of2 (args := [.slice a21 x0.length p22, .int .i64 x1, .slice a25 x2.length p26]) (rs := [.cell 6 30, .tmp 7]) (N := 81) Tryd.func20 rfl rfl rfl rfl ?_
 refine st 2 [] (k_op (nA hs [.int .i64 0, .int .i64 0, .slice none 0 0] (.agg #[.int .i64 0, .int .i64 0, .slice none 0 0]) ?_))
 intro b29 h hs
 refine st 12 [] (k_ite H (fun c30 H => ?_) (fun c30 H => ?_))
 ·refine st 5 [true] (k_op (sN hs 0 [.int .i64 0, .int .i64 0, .slice none 0 0] [.int .i64 0, .int .i64 0, .slice none 0 0] (ones_of rfl) ?_))
  intro h hs
  refine st 2 [] ?_
  refine k_retQ ?_
  obtain rfl := Option.some.inj H
  exact ⟨[.agg #[.int .i64 0, .int .i64 0, .slice none 0 0], .int .i64 2], (.cons (.agg (by kernel_rfl) (by kernel_rfl) (by kernel_rfl) ((hs.bl d0).seg_ 0 3 (Nat.le_of_ble_eq_true rfl))) (.cons (.tmp (by kernel_rfl)) .nil)), I, _, ⟨none, 0, 0, rfl, rfl⟩, hs.pk (.f imON .n)⟩
 ·refine st 7 [false] (k_ite H (fun c31 H => ?_) (fun c31 H => ?_))
  ·refine st 5 [true] (k_op (sN hs 0 [.int .i64 0, .int .i64 0, .slice none 0 0] [.int .i64 0, .int .i64 0, .slice none 0 0] (ones_of rfl) ?_))
   intro h hs
   refine st 2 [] ?_
   refine k_retQ ?_
   obtain rfl := Option.some.inj H
   exact ⟨[.agg #[.int .i64 0, .int .i64 0, .slice none 0 0], .int .i64 6], (.cons (.agg (by kernel_rfl) (by kernel_rfl) (by kernel_rfl) ((hs.bl d0).seg_ 0 3 (Nat.le_of_ble_eq_true rfl))) (.cons (.tmp (by kernel_rfl)) .nil)), I, _, ⟨none, 0, 0, rfl, rfl⟩, hs.pk (.f imON .n)⟩
  ·refine st 5 [false] ?_
   obtain ⟨hs0, bk0⟩ := hs.call tk0 (.c (qB d2) (.c (qB d1) .n))
   have hs := hs0
   refine k_regD hs0 12 ?_
   obtain ⟨c32, H⟩ := guard_pos H
   obtain ⟨c33, H⟩ := guard_pos H
   refine aRun [0, 1, 2, 3] 8 hs.keep ?_
   refine aP 4 (.slice (slA a25 p26 (Int.toNat (0 : Int)) 1) ((sub x2 0 (w64 ((x2.length : Int) - 16))).length) (p26 - Int.toNat (0 : Int))) rfl (pSh (e := 5) (k2 := .i64) (hs.sR d0) (Int.le_refl 0) c32 c33) hs.keep ?_
   refine aRun [6, 7, 8] 4 hs.keep ?_
   refine aP 9 (.slice (slA a25 p26 (Int.toNat (w64 ((x2.length : Int) - 16))) 1) ((sub x2 (w64 ((x2.length : Int) - 16)) (x2.length : Int)).length) (p26 - Int.toNat (w64 ((x2.length : Int) - 16)))) rfl (pSl (e := 5) (k1 := .i64) (hs.sR d0) c32 c33 (Int.le_refl _)) hs.keep ?_
   obtain ⟨hk, bk⟩ := hs.call tk0 (.c (qB d1) (.c (qP (qB d0) (lo := 0) (hi := (w64 ((x2.length : Int) - 16))) (Int.le_refl 0) c32 c33) .n))
   refine aO1 5 rfl (o_call H (fun _ m => shutterref02_Tag.calls m hk) ?_)
   rintro t34 _ h H ⟨I, _, ⟨a35, p36, n37, rfl, rfl⟩, hk⟩
   replace hs := bk hk ct1 rfl
   obtain rfl := hs.nO d0
   refine ⟨hs.keep, ?_⟩
   refine aO1 10 rfl (o_call H (fun _ m => shutterref01_Same.calls m ((hs.sO d0)).up1 (Sn.part (hs.sR d1) (lo := (w64 ((x2.length : Int) - 16))) (hi := (x2.length : Int)) c32 c33 (Int.le_refl _))) ?_)
   rintro t39 _ _ H ⟨rfl, rfl⟩
   refine ⟨hs.keep, ?_⟩
   cases t39
   ·rw [cond_false] at H
    refine aRun [11] 0 hs.keep ?_
    replace hs := hs.pk (.c d0 .n)
    replace hs := bk0 hs ct1 rfl
    refine aEnd ?_
    refine st 4 [true] (k_op (sN (hs.f d1) 0 [.int .i64 0, .int .i64 0, .slice none 0 0] [.int .i64 0, .int .i64 0, .slice none 0 0] (ones_of rfl) ?_))
    intro h hs
    refine st 2 [] ?_
    refine k_retQ ?_
    obtain rfl := Option.some.inj H
    exact ⟨[.agg #[.int .i64 0, .int .i64 0, .slice none 0 0], .int .i64 11], (.cons (.agg (by kernel_rfl) (by kernel_rfl) (by kernel_rfl) ((hs.bl d0).seg_ 0 3 (Nat.le_of_ble_eq_true rfl))) (.cons (.tmp (by kernel_rfl)) .nil)), I, _, ⟨none, 0, 0, rfl, rfl⟩, hs.pk (.f imON .n)⟩
   ·rw [cond_true] at H
    refine aRun [11] 0 hs.keep ?_
    replace hs := hs.pk (.c d0 .n)
    replace hs := bk0 hs ct1 rfl
    refine aEnd ?_
    obtain ⟨c40, H⟩ := guard_pos H
    refine st 6 [false] (k_val (elemPtr a25 ((0 : Int).toNat * 1)) (pI (e := 5) (ik := .i64) (hs.sR d3) (by decide) c40) ?_)
    refine k_op (lC ((hs.sR d3).cell1 (by decide) c40) ?_)
    refine k_iteN H (fun c41 H => ?_) (fun c41 H => ?_)
    ·obtain ⟨c42, H⟩ := guard_pos H
     refine st 2 [] (k_val (elemPtr a25 ((1 : Int).toNat * 1)) (pI (e := 5) (ik := .i64) (hs.sR d3) (by decide) c42) ?_)
     refine k_op (lC ((hs.sR d3).cell1 (by decide) c42) ?_)
     refine st 2 [] (k_iteN H (fun c43 H => ?_) (fun c43 H => ?_))
     ·obtain ⟨c44, H⟩ := guard_pos H
      refine st 8 [false] (k_val (elemPtr a25 ((2 : Int).toNat * 1)) (pI (e := 5) (ik := .i64) (hs.sR d3) (by decide) c44) ?_)
      refine k_op (lC ((hs.sR d3).cell1 (by decide) c44) ?_)
      refine k_ite H (fun c45 H => ?_) (fun c45 H => ?_)
      ·refine st 9 [true] (k_op (sN (hs.f d1) 0 [.int .i64 0, .int .i64 0, .slice none 0 0] [.int .i64 0, .int .i64 0, .slice none 0 0] (ones_of rfl) ?_))
       intro h hs
       refine st 2 [] ?_
       refine k_retQ ?_
       obtain rfl := Option.some.inj H
       exact ⟨[.agg #[.int .i64 0, .int .i64 0, .slice none 0 0], .int .i64 1], (.cons (.agg (by kernel_rfl) (by kernel_rfl) (by kernel_rfl) ((hs.bl d0).seg_ 0 3 (Nat.le_of_ble_eq_true rfl))) (.cons (.tmp (by kernel_rfl)) .nil)), I, _, ⟨none, 0, 0, rfl, rfl⟩, hs.pk (.f imON .n)⟩
      ·refine st 2 [] (k_ite H (fun c46 H => ?_) (fun c46 H => ?_))
       ·refine st 6 [true] (k_op (sN (hs.f d1) 0 [.int .i64 0, .int .i64 0, .slice none 0 0] [.int .i64 0, .int .i64 0, .slice none 0 0] (ones_of rfl) ?_))
        intro h hs
        refine st 2 [] ?_
        refine k_retQ ?_
        obtain rfl := Option.some.inj H
        exact ⟨[.agg #[.int .i64 0, .int .i64 0, .slice none 0 0], .int .i64 1], (.cons (.agg (by kernel_rfl) (by kernel_rfl) (by kernel_rfl) ((hs.bl d0).seg_ 0 3 (Nat.le_of_ble_eq_true rfl))) (.cons (.tmp (by kernel_rfl)) .nil)), I, _, ⟨none, 0, 0, rfl, rfl⟩, hs.pk (.f imON .n)⟩
       ·refine st 14 [false] ?_
        obtain ⟨s49, m52, HR51⟩ := bind_some H
        refine k_loop 0 (fun k' ρ h => ∃ (x47 : Int) (x48 : Int) (I : Gh), shutterref19_Open.l1.m K x2 k' x47 x48 = some s49 ∧ Fits [(1, .int .i64 x1), (2, .slice a25 x2.length p26), (6, .pointer (some ⟨b29, 0, none⟩)), (8, .int .i64 (x2.length : Int)), (9, .int .i64 x47), (10, .int .i64 x48)] ρ ∧ St E [rR (tInt .u8) .b a25 p26 x2.length x2, rB b29 [.int .i64 0, .int .i64 0, .slice none 0 0] 30] I h) (fun ρ h => ∃ (x50 : Int) (I : Gh), x50 = s49 ∧ Fits [(1, .int .i64 x1), (2, .slice a25 x2.length p26), (6, .pointer (some ⟨b29, 0, none⟩)), (8, .int .i64 (x2.length : Int)), (9, .int .i64 x50)] ρ ∧ St E [rR (tInt .u8) .b a25 p26 x2.length x2, rB b29 [.int .i64 0, .int .i64 0, .slice none 0 0] 30] I h) K ⟨0, 2, I, m52, ⟨by kernel_rfl, by kernel_rfl, by kernel_rfl, by kernel_rfl, by kernel_rfl, by kernel_rfl, trivial⟩, hs.pk (.c d3 (.c d1 .n))⟩ ?_ rfl ?_
        ·clear HR51 m52 H
         rintro k' ρ h ⟨x47, x48, I, H, hf, hs⟩
         cases k' with
         | zero => cases H
         | succ k =>
          rw [shutterref19_Open.l1.m] at H
          refine k_fits _ hf ?_ rfl
          refine st 4 [] (k_ite H (fun c53 H => ?_) (fun c53 H => ?_))
          ·obtain ⟨c54, H⟩ := guard_pos H
           obtain ⟨c55, H⟩ := guard_pos H
           refine st 10 [true] (k_val (elemPtr a25 (x48.toNat * 1)) (pI (e := 5) (ik := .i64) (hs.sR d0) c54 c55) ?_)
           refine k_op (lC ((hs.sR d0).cell1 c54 c55) ?_)
           refine st 10 [] ?_
           exact k_endL ⟨k, Nat.lt_succ_self _, (w64 ((w64 (x47 * 256)) + (w64 ((at_ x2 x48))))), (w64 (x48 + 1)), I, H, ⟨by kernel_rfl, by kernel_rfl, by kernel_rfl, by kernel_rfl, by kernel_rfl, by kernel_rfl, trivial⟩, hs.pk (.c d0 (.c d0 .n))⟩
          ·refine st 2 [false] ?_
           refine k_out rfl ?_
           obtain rfl := Option.some.inj H
           exact xE ⟨x47, I, rfl, ⟨by kernel_rfl, by kernel_rfl, by kernel_rfl, by kernel_rfl, by kernel_rfl, trivial⟩, hs.pk (.c d0 (.c d0 .n))⟩
        ·rintro ρ h ⟨x50, I, rfl, hf, hs⟩
         have H := HR51
         try dsimp only at H
         refine k_fits _ hf ?_ rfl
         refine st 4 [] (k_op (nS (e := 5) hs .i (tInt .u8) ([] : List Int) [] 1 (.int .u8 0) (Reps.int (I := (Cl.G .i E.B I)) (k := .u8) (l := [])) ?_))
         intro b56 h hs
         obtain ⟨c58, H⟩ := guard_pos H
         replace hs := hs.part d1 (lo := 10) (hi := (w64 ((x2.length : Int) - 16))) (by decide) c58 c33
         refine st 3 [] (k_val (.slice (slA a25 p26 (Int.toNat (10 : Int)) 1) ((sub x2 10 (w64 ((x2.length : Int) - 16))).length) (p26 - Int.toNat (10 : Int))) (pS (e := 5) (k1 := .i64) (k2 := .i64) (hs.sR d2) (by decide) c58 c33) ?_)
         replace hs := (hs.f d1)
         obtain ⟨l60, m61, H⟩ := bind_some H
         refine k_op (aO (e := 5) (bytes := 1) hs ((hs.sR d1).flat flat_int) m61 ?_)
         intro a62 p63 h hs
         refine st 1 [] (k_op (nA hs [.int .i64 0, .int .i64 0, .slice none 0 0] (.agg #[.int .i64 0, .int .i64 0, .slice none 0 0]) ?_))
         intro b65 h hs
         refine k_op (sN hs 0 [.int .i64 x1, .int .i64 x50, .slice a62 l60.length p63] [.int .i64 x1, .int .i64 x50, .slice a62 l60.length p63] (ones_of rfl) ?_)
         intro h hs
         refine st 4 [] (k_op (lN (hs.bl d0) 0 3 ?_))
         obtain ⟨hk, bk⟩ := hs.call tk0 (.c (qO d1) .n)
         refine k_call H (fun _ m => shutterref19_Wrong.calls m hk) ?_
         rintro t66 _ h H ⟨I, _, ⟨rfl, rfl⟩, hk⟩
         replace hs := bk hk ct0 rfl
         refine k_iteN H (fun c67 H => ?_) (fun c67 H => ?_)
         ·refine st 5 [false] (k_op (lN (hs.bl d0) 0 3 ?_))
          refine k_op (sN (hs.f d4) 0 [.int .i64 x1, .int .i64 x50, .slice a62 l60.length p63] [.int .i64 x1, .int .i64 x50, .slice a62 l60.length p63] (ones_of rfl) ?_)
          intro h hs
          refine st 2 [] ?_
          refine k_retQ ?_
          obtain rfl := Option.some.inj H
          exact ⟨[.agg #[.int .i64 x1, .int .i64 x50, .slice a62 l60.length p63], .int .i64 0], (.cons (.agg (by kernel_rfl) (by kernel_rfl) (by kernel_rfl) ((hs.bl d0).seg_ 0 3 (Nat.le_of_ble_eq_true rfl))) (.cons (.tmp (by kernel_rfl)) .nil)), I, _, ⟨a62, p63, l60.length, rfl, rfl⟩, hs.pk (.c d2 .n)⟩
         ·refine st 5 [true] (k_op (sN (hs.f d4) 0 [.int .i64 0, .int .i64 0, .slice none 0 0] [.int .i64 0, .int .i64 0, .slice none 0 0] (ones_of rfl) ?_))
          intro h hs
          refine st 2 [] ?_
          refine k_retQ ?_
          obtain rfl := Option.some.inj H
          exact ⟨[.agg #[.int .i64 0, .int .i64 0, .slice none 0 0], .int .i64 1], (.cons (.agg (by kernel_rfl) (by kernel_rfl) (by kernel_rfl) ((hs.bl d0).seg_ 0 3 (Nat.le_of_ble_eq_true rfl))) (.cons (.tmp (by kernel_rfl)) .nil)), I, _, ⟨none, 0, 0, rfl, rfl⟩, hs.pk (.f imON .n)⟩
     ·refine st 6 [true] (k_op (sN (hs.f d1) 0 [.int .i64 0, .int .i64 0, .slice none 0 0] [.int .i64 0, .int .i64 0, .slice none 0 0] (ones_of rfl) ?_))
      intro h hs
      refine st 2 [] ?_
      refine k_retQ ?_
      obtain rfl := Option.some.inj H
      exact ⟨[.agg #[.int .i64 0, .int .i64 0, .slice none 0 0], .int .i64 13], (.cons (.agg (by kernel_rfl) (by kernel_rfl) (by kernel_rfl) ((hs.bl d0).seg_ 0 3 (Nat.le_of_ble_eq_true rfl))) (.cons (.tmp (by kernel_rfl)) .nil)), I, _, ⟨none, 0, 0, rfl, rfl⟩, hs.pk (.f imON .n)⟩
    ·refine st 13 [true] (k_op (sN (hs.f d1) 0 [.int .i64 0, .int .i64 0, .slice none 0 0] [.int .i64 0, .int .i64 0, .slice none 0 0] (ones_of rfl) ?_))
     intro h hs
     refine st 2 [] ?_
     refine k_retQ ?_
     obtain rfl := Option.some.inj H
     exact ⟨[.agg #[.int .i64 0, .int .i64 0, .slice none 0 0], .int .i64 13], (.cons (.agg (by kernel_rfl) (by kernel_rfl) (by kernel_rfl) ((hs.bl d0).seg_ 0 3 (Nat.le_of_ble_eq_true rfl))) (.cons (.tmp (by kernel_rfl)) .nil)), I, _, ⟨none, 0, 0, rfl, rfl⟩, hs.pk (.f imON .n)⟩

/-! shutter/shutterlaw19.FrameForged -/
def shutterlaw19_FrameForged.m (K : Nat) (x0 : (List Int)) (x1 : api_Frame) (x2 : Int) (x3 : Int) : Option Bool :=
  ((shutterlaw19_awake.m K).bind fun t30 => bif t30 then (if (x0.length : Int) > 200 then ((shutterlaw19_awake.m K).bind fun t32 => (some t32)) else (if (x1.Body.length : Int) > 486 then ((shutterlaw19_awake.m K).bind fun t34 => (some t34)) else ((shutterref19_Wrong.m x1).bind fun t35 => (if t35 = 0 then ((shutterref19_Seal.m K x0 x1).bind fun t37 => (if (t37.length : Int) ≠ 0 then (if 0 ≤ (Int.tmod (w64 (x2)) (t37.length : Int)) then (if (Int.tmod (w64 (x2)) (t37.length : Int)) < (t37.length : Int) then ((frame_Open.m K x0 x1.Dir (t37.set (Int.tmod (w64 (x2)) (t37.length : Int)).toNat (bXor .u8 (at_ t37 (Int.tmod (w64 (x2)) (t37.length : Int))) x3))).bind fun t48 => ((shutterref19_Open.m K x0 x1.Dir (t37.set (Int.tmod (w64 (x2)) (t37.length : Int)).toNat (bXor .u8 (at_ t37 (Int.tmod (w64 (x2)) (t37.length : Int))) x3))).bind fun t56 => ((shutterref19_Same.m K t48.1 t56.1).bind fun t62 => bif t62 then ((api_Code.m t48.2).bind fun t63 => (if t63 = t56.2 then (if x3 = 0 then (if t48.2 = GoErr.nil then (some true) else (some false)) else (some true)) else (some false))) else (some false)))) else none) else none) else none)) else ((shutterlaw19_awake.m K).bind fun t69 => (some t69)))))) else ((shutterlaw19_awake.m K).bind fun t70 => (some t70)))

theorem shutterlaw19_FrameForged.calls {B I : Gh} {h : Heap} {K : Nat} {x0 : (List Int)} {x1 : api_Frame} {x2 : Int} {x3 : Int} {a21 : Option Addr} {p22 : Nat} {n23 : Nat} {a25 : Option Addr} {p26 : Nat} {n27 : Nat} {r : Bool} (H : shutterlaw19_FrameForged.m K x0 x1 x2 x3 = some r)  :
    Fc Tryd.prog 6 #[.slice a21 n23 p22, .agg #[.int .i64 x1.Dir, .int .i64 x1.Seq, .slice a25 n27 p26], .int .u16 x2, .int .u8 x3] [rR (tInt .u8) .b a21 p22 n23 x0, rR (tInt .u8) .b a25 p26 n27 x1.Body, rG] B I h (fun v L => v = .bool r ∧ L = []) := by
 refine fc_of fun E hs => ?_
 unfold shutterlaw19_FrameForged.m at H
 obtain rfl := hs.nR d0
 obtain rfl := hs.nR d1
 refine fn_of (args := [.slice a21 x0.length p22, .agg #[.int .i64 x1.Dir, .int .i64 x1.Seq, .slice a25 x1.Body.length p26], .int .u16 x2, .int .u8 x3]) (rs := [.tmp 8]) (N := 86) Tryd.func6 rfl rfl rfl rfl ?_
 refine st 2 [] (k_op (nB hs [.int .i64 x1.Dir, .int .i64 x1.Seq, .slice a25 x1.Body.length p26] ?_))
 intro b29 h hs
 obtain ⟨hk, bk⟩ := hs.call tk0 (.c (gK d3) .n)
 refine st 5 [] (k_call H (fun _ m => shutterlaw19_awake.calls m hk) ?_)
 rintro t30 _ h H ⟨I, _, ⟨rfl, rfl⟩, hk⟩
 replace hs := bk hk ct0 rfl
 cases t30
 ·rw [cond_false] at H
  obtain ⟨hk, bk⟩ := hs.call tk0 (.c (gK d3) .n)
  refine st 21 [true] (k_call H (fun _ m => shutterlaw19_awake.calls m hk) ?_)
  rintro t70 _ h H ⟨I, _, ⟨rfl, rfl⟩, hk⟩
  replace hs := bk hk ct0 rfl
  refine st 2 [] ?_
  refine k_retQ ?_
  obtain rfl := Option.some.inj H
  exact ⟨_, by kernel_rfl, I, _, ⟨rfl, rfl⟩, hs.pk .n⟩
 ·rw [cond_true] at H
  refine st 4 [] (k_ite H (fun c31 H => ?_) (fun c31 H => ?_))
  ·obtain ⟨hk, bk⟩ := hs.call tk0 (.c (gK d3) .n)
   refine st 16 [true] (k_call H (fun _ m => shutterlaw19_awake.calls m hk) ?_)
   rintro t32 _ h H ⟨I, _, ⟨rfl, rfl⟩, hk⟩
   replace hs := bk hk ct0 rfl
   refine st 2 [] ?_
   refine k_retQ ?_
   obtain rfl := Option.some.inj H
   exact ⟨_, by kernel_rfl, I, _, ⟨rfl, rfl⟩, hs.pk .n⟩
  ·refine st 3 [] (k_op (lB (hs.bl d0) 2 rfl ?_))
   refine st 1 [] (k_ite H (fun c33 H => ?_) (fun c33 H => ?_))
   ·obtain ⟨hk, bk⟩ := hs.call tk0 (.c (gK d3) .n)
    refine st 10 [true] (k_call H (fun _ m => shutterlaw19_awake.calls m hk) ?_)
    rintro t34 _ h H ⟨I, _, ⟨rfl, rfl⟩, hk⟩
    replace hs := bk hk ct0 rfl
    refine st 2 [] ?_
    refine k_retQ ?_
    obtain rfl := Option.some.inj H
    exact ⟨_, by kernel_rfl, I, _, ⟨rfl, rfl⟩, hs.pk .n⟩
   ·refine st 2 [] (k_op (lN (hs.bl d0) 0 3 ?_))
    obtain ⟨hk, bk⟩ := hs.call tk0 (.c (qB d2) .n)
    refine k_call H (fun _ m => shutterref19_Wrong.calls m hk) ?_
    rintro t35 _ h H ⟨I, _, ⟨rfl, rfl⟩, hk⟩
    replace hs := bk hk ct0 rfl
    refine k_iteN H (fun c36 H => ?_) (fun c36 H => ?_)
    ·refine st 7 [false] (k_op (lN (hs.bl d0) 0 3 ?_))
     obtain ⟨hk, bk⟩ := hs.call tk0 (.c (qB d1) (.c (qB d2) .n))
     refine k_call H (fun _ m => shutterref19_Seal.calls m hk) ?_
     rintro t37 _ h H ⟨I, _, ⟨a38, p39, n40, rfl, rfl⟩, hk⟩
     replace hs := bk hk ct1 rfl
     obtain rfl := hs.nO d0
     refine st 3 [] ?_
     obtain ⟨hs0, bk0⟩ := hs.call tk0 (.c (qO d0) .n)
     have hs := hs0
     refine k_regD hs0 17 ?_
     obtain ⟨c42, H⟩ := guard_pos H
     refine aRun [0, 1, 2, 3, 4] 13 hs.keep ?_
     refine aP 5 (.int .i64 (Int.tmod (w64 (x2)) (t37.length : Int))) rfl (pr_rem (k := .i64) (a := (w64 (x2))) (b := (t37.length : Int)) (by kernel_rfl) (by kernel_rfl) c42) hs.keep ?_
     refine aRun [6, 7, 8, 9, 10] 7 hs.keep ?_
     refine aP 11 (.int .i64 (Int.tmod (w64 (x2)) (t37.length : Int))) rfl (pr_rem (k := .i64) (a := (w64 (x2))) (b := (t37.length : Int)) (by kernel_rfl) (by kernel_rfl) c42) hs.keep ?_
     obtain ⟨c43, H⟩ := guard_pos H
     obtain ⟨c44, H⟩ := guard_pos H
     refine aP 12 (elemPtr a38 ((Int.tmod (w64 (x2)) (t37.length : Int)).toNat * 1)) rfl (pI (e := 5) (ik := .i64) (hs.sR d0) c43 c44) hs.keep ?_
     refine aL 13 rfl hs.keep ((hs0.sR d0).cell1 c43 c44) (nmR hs0 d0 c43 c44) ?_
     refine aRun [14, 15] 2 hs.keep ?_
     refine aP 16 (elemPtr a38 ((Int.tmod (w64 (x2)) (t37.length : Int)).toNat * 1)) rfl (pI (e := 5) (ik := .i64) (hs.sR d0) c43 c44) hs.keep ?_
     replace hs := hs.pk .n
     replace hs := bk0 hs ct0 rfl
     obtain ⟨y46, g45, q47⟩ := (hs.sO d0).toSl.seg c43 c44
     obtain rfl := rep_int q47
     refine aOL 17 rfl (sE hs 0 [.int .u8 (bXor .u8 (at_ t37 (Int.tmod (w64 (x2)) (t37.length : Int))) x3)] (bXor .u8 (at_ t37 (Int.tmod (w64 (x2)) (t37.length : Int))) x3) c43 c44 g45 (ones_of rfl) rfl ?_)
     intro h hs
     refine aEnd ?_
     refine st 4 [] (k_op (lB (hs.bl d1) 0 rfl ?_))
     obtain ⟨hk, bk⟩ := hs.call tk0 (.c (qB d2) (.c (qO d0) .n))
     refine st 1 [] (k_call H (fun _ m => frame_Open.calls m hk) ?_)
     rintro t48 _ h H ⟨I, _, ⟨a49, p50, n51, v53, rfl, rfl⟩, hk⟩
     replace hs := bk hk ct2 rfl
     obtain rfl := hs.nO d0
     refine st 3 [] (k_op (nA hs [.int .i64 0, .int .i64 0, .slice none 0 0] (.agg #[.int .i64 0, .int .i64 0, .slice none 0 0]) ?_))
     intro b55 h hs
     refine k_op (sN hs 0 [.int .i64 t48.1.Dir, .int .i64 t48.1.Seq, .slice a49 t48.1.Body.length p50] [.int .i64 t48.1.Dir, .int .i64 t48.1.Seq, .slice a49 t48.1.Body.length p50] (ones_of rfl) ?_)
     intro h hs
     refine st 6 [] (k_op (lB (hs.bl d4) 0 rfl ?_))
     obtain ⟨hk, bk⟩ := hs.call tk0 (.c (qB d5) (.c (qO d3) .n))
     refine st 1 [] (k_call H (fun _ m => shutterref19_Open.calls m hk) ?_)
     rintro t56 _ h H ⟨I, _, ⟨a57, p58, n59, rfl, rfl⟩, hk⟩
     replace hs := bk hk ct1 rfl
     obtain rfl := hs.nO d0
     refine st 3 [] (k_op (nA hs [.int .i64 0, .int .i64 0, .slice none 0 0] (.agg #[.int .i64 0, .int .i64 0, .slice none 0 0]) ?_))
     intro b61 h hs
     refine k_op (sN hs 0 [.int .i64 t56.1.Dir, .int .i64 t56.1.Seq, .slice a57 t56.1.Body.length p58] [.int .i64 t56.1.Dir, .int .i64 t56.1.Seq, .slice a57 t56.1.Body.length p58] (ones_of rfl) ?_)
     intro h hs
     refine st 4 [] (k_op (lN (hs.bl d2) 0 3 ?_))
     refine k_op (lN (hs.bl d0) 0 3 ?_)
     obtain ⟨hk, bk⟩ := hs.call tk0 (.c (qO d3) (.c (qO d1) .n))
     refine k_call H (fun _ m => shutterref19_Same.calls m hk) ?_
     rintro t62 _ h H ⟨I, _, ⟨rfl, rfl⟩, hk⟩
     replace hs := bk hk ct0 rfl
     cases t62
     ·rw [cond_false] at H
      refine st 16 [] ?_
      refine k_retQ ?_
      obtain rfl := Option.some.inj H
      exact ⟨_, by kernel_rfl, I, _, ⟨rfl, rfl⟩, hs.pk .n⟩
     ·rw [cond_true] at H
      obtain ⟨hk, bk⟩ := hs.call tk0 (.c (xI d4) (.c (gK d9) .n))
      refine st 2 [] (k_call H (fun _ m => api_Code.calls m hk) ?_)
      rintro t63 _ h H ⟨I, _, ⟨rfl, rfl⟩, hk⟩
      replace hs := bk hk ct0 rfl
      refine st 1 [] (k_ite H (fun c64 H => ?_) (fun c64 H => ?_))
      ·refine st 3 [] (k_iteN H (fun c65 H => ?_) (fun c65 H => ?_))
       ·rcases (hs.er d4).cases with ⟨c66, rfl⟩ | ⟨c66, t67, u68, rfl⟩
        ·rw [if_pos c66] at H
         refine st 7 [] ?_
         refine k_retQ ?_
         obtain rfl := Option.some.inj H
         exact ⟨_, by kernel_rfl, I, _, ⟨rfl, rfl⟩, hs.pk .n⟩
        ·rw [if_neg c66] at H
         refine st 7 [] ?_
         refine k_retQ ?_
         obtain rfl := Option.some.inj H
         exact ⟨_, by kernel_rfl, I, _, ⟨rfl, rfl⟩, hs.pk .n⟩
       ·refine st 7 [] ?_
        refine k_retQ ?_
        obtain rfl := Option.some.inj H
        exact ⟨_, by kernel_rfl, I, _, ⟨rfl, rfl⟩, hs.pk .n⟩
      ·refine st 11 [] ?_
       refine k_retQ ?_
       obtain rfl := Option.some.inj H
       exact ⟨_, by kernel_rfl, I, _, ⟨rfl, rfl⟩, hs.pk .n⟩
    ·obtain ⟨hk, bk⟩ := hs.call tk0 (.c (gK d3) .n)
     refine st 5 [true] (k_call H (fun _ m => shutterlaw19_awake.calls m hk) ?_)
     rintro t69 _ h H ⟨I, _, ⟨rfl, rfl⟩, hk⟩
     replace hs := bk hk ct0 rfl
     refine st 2 [] ?_
     refine k_retQ ?_
     obtain rfl := Option.some.inj H
     exact ⟨_, by kernel_rfl, I, _, ⟨rfl, rfl⟩, hs.pk .n⟩

/-! shutter/shutterlaw19.FrameKeeps -/
def shutterlaw19_FrameKeeps.l1.m (K : Nat) : Nat → (List Int) → Int → Option (Unit)
  | 0, _, _ => none
  | k + 1, x59, x64 => (if x64 < (x59.length : Int) then (if 0 ≤ x64 then (shutterlaw19_FrameKeeps.l1.m K k (x59.set x64.toNat (bXor .u8 (at_ x59 x64) 255)) (w64 (x64 + 1))) else none) else (some (())))
def shutterlaw19_FrameKeeps.m (K : Nat) (x0 : (List Int)) (x1 : (List Int)) : Option Bool :=
  ((shutterlaw19_awake.m K).bind fun t29 => bif t29 then (if (x0.length : Int) > 200 then ((shutterlaw19_awake.m K).bind fun t31 => (some t31)) else (if (x1.length : Int) > 400 then ((shutterlaw19_awake.m K).bind fun t33 => (some t33)) else ((app [] x1).bind fun l36 => ((frame_Seal.m K x0 (⟨1, 7, l36⟩ : api_Frame)).bind fun t41 => (letJ (α := Bool → Option Bool) (fun (x49 : Bool) => ((frame_Open.m K x0 1 t41.1).bind fun t51 => ((shutterlaw19_FrameKeeps.l1.m K K t41.1 0).bind fun _ => (if t41.2 = GoErr.nil then (if t51.2 = GoErr.nil then (bif x49 then ((shutterref01_Same.m K t51.1.Body x1).bind fun t80 => (some t80)) else (some false)) else (some false)) else (some false))))) fun (j50 : Bool → Option Bool) => ((shutterref01_Same.m K l36 x1).bind fun t48 => bif t48 then (j50 true) else (j50 false))))))) else ((shutterlaw19_awake.m K).bind fun t82 => (some t82)))

theorem shutterlaw19_FrameKeeps.calls {B I : Gh} {h : Heap} {K : Nat} {x0 : (List Int)} {x1 : (List Int)} {a21 : Option Addr} {p22 : Nat} {n23 : Nat} {a25 : Option Addr} {p26 : Nat} {n27 : Nat} {r : Bool} (H : shutterlaw19_FrameKeeps.m K x0 x1 = some r)  :
    Fc Tryd.prog 7 #[.slice a21 n23 p22, .slice a25 n27 p26] [rR (tInt .u8) .b a21 p22 n23 x0, rR (tInt .u8) .b a25 p26 n27 x1, rG] B I h (fun v L => v = .bool r ∧ L = []) := by
 refine fc_of fun E hs => ?_
 unfold shutterlaw19_FrameKeeps.m at H
 obtain rfl := hs.nR d0
 obtain rfl := hs.nR d1
 refine fn_of (args := [.slice a21 x0.length p22, .slice a25 x1.length p26]) (rs := [.tmp 4]) (N := 73) Tryd.func7 rfl rfl rfl rfl ?_
 obtain ⟨hk, bk⟩ := hs.call tk0 (.c (gK d2) .n)
 refine st 7 [] (k_call H (fun _ m => shutterlaw19_awake.calls m hk) ?_)
 rintro t29 _ h H ⟨I, _, ⟨rfl, rfl⟩, hk⟩
 replace hs := bk hk ct0 rfl
 cases t29
 ·rw [cond_false] at H
  obtain ⟨hk, bk⟩ := hs.call tk0 (.c (gK d2) .n)
  refine st 15 [true] (k_call H (fun _ m => shutterlaw19_awake.calls m hk) ?_)
  rintro t82 _ h H ⟨I, _, ⟨rfl, rfl⟩, hk⟩
  replace hs := bk hk ct0 rfl
  refine st 2 [] ?_
  refine k_retQ ?_
  obtain rfl := Option.some.inj H
  exact ⟨_, by kernel_rfl, I, _, ⟨rfl, rfl⟩, hs.pk .n⟩
 ·rw [cond_true] at H
  refine st 4 [] (k_ite H (fun c30 H => ?_) (fun c30 H => ?_))
  ·obtain ⟨hk, bk⟩ := hs.call tk0 (.c (gK d2) .n)
   refine st 10 [true] (k_call H (fun _ m => shutterlaw19_awake.calls m hk) ?_)
   rintro t31 _ h H ⟨I, _, ⟨rfl, rfl⟩, hk⟩
   replace hs := bk hk ct0 rfl
   refine st 2 [] ?_
   refine k_retQ ?_
   obtain rfl := Option.some.inj H
   exact ⟨_, by kernel_rfl, I, _, ⟨rfl, rfl⟩, hs.pk .n⟩
  ·refine st 4 [] (k_ite H (fun c32 H => ?_) (fun c32 H => ?_))
   ·obtain ⟨hk, bk⟩ := hs.call tk0 (.c (gK d2) .n)
    refine st 5 [true] (k_call H (fun _ m => shutterlaw19_awake.calls m hk) ?_)
    rintro t33 _ h H ⟨I, _, ⟨rfl, rfl⟩, hk⟩
    replace hs := bk hk ct0 rfl
    refine st 2 [] ?_
    refine k_retQ ?_
    obtain rfl := Option.some.inj H
    exact ⟨_, by kernel_rfl, I, _, ⟨rfl, rfl⟩, hs.pk .n⟩
   ·refine st 6 [false] (k_op (nS (e := 5) hs .i (tInt .u8) ([] : List Int) [] 1 (.int .u8 0) (Reps.int (I := (Cl.G .i E.B I)) (k := .u8) (l := [])) ?_))
    intro b34 h hs
    obtain ⟨l36, m37, H⟩ := bind_some H
    refine st 1 [] (k_op (aO (e := 5) (bytes := 1) hs ((hs.sR d2).flat flat_int) m37 ?_))
    intro a38 p39 h hs
    obtain ⟨hk, bk⟩ := hs.call tk0 (.c (qB d1) (.c (qO d0) .n))
    refine st 7 [] (k_call H (fun _ m => frame_Seal.calls m hk) ?_)
    rintro t41 _ h H ⟨I, _, ⟨a42, p43, n44, v46, rfl, rfl⟩, hk⟩
    replace hs := bk hk ct2 rfl
    obtain rfl := hs.nO d0
    refine st 7 [] ?_
    obtain ⟨j50, e81, H⟩ := letJ_some H
    refine k_join (fun ρ h => ∃ (x49 : Bool) (I : Gh), j50 x49 = some r ∧ Fits [(0, .slice a21 x0.length p22), (1, .slice a25 x1.length p26), (6, .slice a42 t41.1.length p43), (7, v46), (8, .bool x49)] ρ ∧ St E [rR (tInt .u8) .b a21 p22 x0.length x0, rR (tInt .u8) .b a25 p26 x1.length x1, rO (tInt .u8) .i a42 p43 t41.1.length t41.1, rE .i v46 t41.2, rG] I h) ?_ ?_
    ·refine st 3 [] (k_call H (fun _ m => shutterref01_Same.calls m ((hs.sO d2)).up1 (hs.sR d4)) ?_)
     rintro t48 _ _ H ⟨rfl, rfl⟩
     cases t48
     ·rw [cond_false] at H
      refine st 2 [] ?_
      exact k_end ⟨false, I, H, ⟨by kernel_rfl, by kernel_rfl, by kernel_rfl, by kernel_rfl, by kernel_rfl, trivial⟩, hs.pk (.c d3 (.c d3 (.c d0 (.c d0 (.c d1 .n)))))⟩
     ·rw [cond_true] at H
      refine st 2 [] ?_
      exact k_end ⟨true, I, H, ⟨by kernel_rfl, by kernel_rfl, by kernel_rfl, by kernel_rfl, by kernel_rfl, trivial⟩, hs.pk (.c d3 (.c d3 (.c d0 (.c d0 (.c d1 .n)))))⟩
    ·clear H
     rintro ρ h ⟨x49, I, H, hf, hs⟩
     refine k_fits _ hf ?_ rfl
     subst e81
     try dsimp only at H
     obtain ⟨hk, bk⟩ := hs.call tk0 (.c (qB d0) (.c (qO d2) .n))
     refine st 4 [] (k_call H (fun _ m => frame_Open.calls m hk) ?_)
     rintro t51 _ h H ⟨I, _, ⟨a52, p53, n54, v56, rfl, rfl⟩, hk⟩
     replace hs := bk hk ct2 rfl
     obtain rfl := hs.nO d0
     refine st 3 [] (k_op (nA hs [.int .i64 0, .int .i64 0, .slice none 0 0] (.agg #[.int .i64 0, .int .i64 0, .slice none 0 0]) ?_))
     intro b58 h hs
     refine k_op (sN hs 0 [.int .i64 t51.1.Dir, .int .i64 t51.1.Seq, .slice a52 t51.1.Body.length p53] [.int .i64 t51.1.Dir, .int .i64 t51.1.Seq, .slice a52 t51.1.Body.length p53] (ones_of rfl) ?_)
     intro h hs
     refine st 8 [] ?_
     obtain ⟨s65, m67, HR66⟩ := bind_some H
     refine k_loop 0 (fun k' ρ h => ∃ (x59 : List Int) (x64 : Int) (a60 : Option Addr) (p61 : Nat) (n62 : Nat) (I : Gh), shutterlaw19_FrameKeeps.l1.m K k' x59 x64 = some s65 ∧ Fits [(1, .slice a25 x1.length p26), (6, .slice a60 n62 p61), (7, v46), (8, .bool x49), (9, .pointer (some ⟨b58, 0, none⟩)), (10, v56), (11, .int .i64 x64)] ρ ∧ St E [rR (tInt .u8) .b a25 p26 x1.length x1, rO (tInt .u8) .i a60 p61 n62 x59, rE .i v46 t41.2, rE .i v56 t51.2, rO (tInt .u8) .i a52 p53 t51.1.Body.length t51.1.Body, rB b58 [.int .i64 t51.1.Dir, .int .i64 t51.1.Seq, .slice a52 t51.1.Body.length p53] 30, rG] I h) (fun ρ h => ∃ (I : Gh), () = s65 ∧ Fits [(1, .slice a25 x1.length p26), (7, v46), (8, .bool x49), (9, .pointer (some ⟨b58, 0, none⟩)), (10, v56)] ρ ∧ St E [rR (tInt .u8) .b a25 p26 x1.length x1, rE .i v46 t41.2, rE .i v56 t51.2, rO (tInt .u8) .i a52 p53 t51.1.Body.length t51.1.Body, rB b58 [.int .i64 t51.1.Dir, .int .i64 t51.1.Seq, .slice a52 t51.1.Body.length p53] 30, rG] I h) K ⟨t41.1, 0, a42, p43, t41.1.length, I, m67, ⟨by kernel_rfl, by kernel_rfl, by kernel_rfl, by kernel_rfl, by kernel_rfl, by kernel_rfl, by kernel_rfl, trivial⟩, hs.pk (.c d4 (.c d4 (.c d4 (.c d2 (.c d1 (.c d0 (.c d1 .n)))))))⟩ ?_ rfl ?_
     ·clear HR66 m67 H
      rintro k' ρ h ⟨x59, x64, a60, p61, n62, I, H, hf, hs⟩
      cases k' with
      | zero => cases H
      | succ k =>
       rw [shutterlaw19_FrameKeeps.l1.m] at H
       refine k_fits _ hf ?_ rfl
       obtain rfl := hs.nO d1
       refine st 6 [] (k_ite H (fun c68 H => ?_) (fun c68 H => ?_))
       ·obtain ⟨c69, H⟩ := guard_pos H
        refine st 10 [true] (k_val (elemPtr a60 (x64.toNat * 1)) (pI (e := 5) (ik := .i64) (hs.sO d1) c69 c68) ?_)
        refine k_op (lC ((hs.sO d1).cell1 c69 c68) ?_)
        refine st 1 [] (k_val (elemPtr a60 (x64.toNat * 1)) (pI (e := 5) (ik := .i64) (hs.sO d1) c69 c68) ?_)
        obtain ⟨y71, g70, q72⟩ := (hs.sO d1).toSl.seg c69 c68
        obtain rfl := rep_int q72
        replace hs := (hs.f d1)
        refine k_op (sE hs 0 [.int .u8 (bXor .u8 (at_ x59 x64) 255)] (bXor .u8 (at_ x59 x64) 255) c69 c68 g70 (ones_of rfl) rfl ?_)
        intro h hs
        refine st 7 [] ?_
        exact k_endL ⟨k, Nat.lt_succ_self _, (x59.set x64.toNat (bXor .u8 (at_ x59 x64) 255)), (w64 (x64 + 1)), a60, p61, x59.length, I, H, ⟨by kernel_rfl, by kernel_rfl, by kernel_rfl, by kernel_rfl, by kernel_rfl, by kernel_rfl, by kernel_rfl, trivial⟩, hs.pk (.c d1 (.c d0 (.c d0 (.c d0 (.c d0 (.c d0 (.c d0 .n)))))))⟩
       ·refine st 2 [false] ?_
        refine k_out rfl ?_
        obtain rfl := Option.some.inj H
        exact xE ⟨I, rfl, ⟨by kernel_rfl, by kernel_rfl, by kernel_rfl, by kernel_rfl, by kernel_rfl, trivial⟩, hs.pk (.c d0 (.c d1 (.c d1 (.c d1 (.c d1 (.c d1 .n))))))⟩
     ·rintro ρ h ⟨I, rfl, hf, hs⟩
      have H := HR66
      try dsimp only at H
      refine k_fits _ hf ?_ rfl
      rcases (hs.er d1).cases with ⟨c73, rfl⟩ | ⟨c73, t74, u75, rfl⟩
      ·rw [if_pos c73] at H
       rcases (hs.er d2).cases with ⟨c76, rfl⟩ | ⟨c76, t77, u78, rfl⟩
       ·rw [if_pos c76] at H
        refine st 9 [] (k_if H (fun c79 H => ?_) (fun c79 H => ?_))
        ·refine st 3 [] (k_op (lB (hs.bl d4) 2 rfl ?_))
         refine st 1 [] (k_call H (fun _ m => shutterref01_Same.calls m ((hs.sO d3)).up1 (hs.sR d0)) ?_)
         rintro t80 _ _ H ⟨rfl, rfl⟩
         refine st 3 [] ?_
         refine k_retQ ?_
         obtain rfl := Option.some.inj H
         exact ⟨_, by kernel_rfl, I, _, ⟨rfl, rfl⟩, hs.pk .n⟩
        ·refine st 9 [] ?_
         refine k_retQ ?_
         obtain rfl := Option.some.inj H
         exact ⟨_, by kernel_rfl, I, _, ⟨rfl, rfl⟩, hs.pk .n⟩
       ·rw [if_neg c76] at H
        refine st 19 [] ?_
        refine k_retQ ?_
        obtain rfl := Option.some.inj H
        exact ⟨_, by kernel_rfl, I, _, ⟨rfl, rfl⟩, hs.pk .n⟩
      ·rw [if_neg c73] at H
       refine st 19 [] ?_
       refine k_retQ ?_
       obtain rfl := Option.some.inj H
       exact ⟨_, by kernel_rfl, I, _, ⟨rfl, rfl⟩, hs.pk .n⟩

/-! shutter/shutterlaw19.FrameApart -/
def shutterlaw19_FrameApart.m (K : Nat) (x0 : (List Int)) (x1 : api_Frame) (x2 : api_Frame) : Option Bool :=
  ((shutterlaw19_awake.m K).bind fun t35 => bif t35 then (if (x0.length : Int) > 200 then ((shutterlaw19_awake.m K).bind fun t37 => (some t37)) else ((shutterref19_Wrong.m x1).bind fun t38 => (if t38 = 0 then ((shutterref19_Wrong.m x2).bind fun t40 => (if t40 = 0 then ((frame_Seal.m K x0 x1).bind fun t42 => ((frame_Seal.m K x0 x2).bind fun t49 => (if t42.2 = GoErr.nil then (if t49.2 = GoErr.nil then ((shutterref01_Same.m K t42.1 t49.1).bind fun t62 => ((shutterref19_Same.m K x1 x2).bind fun t63 => (some (t62 == t63)))) else (some false)) else (some false)))) else ((shutterlaw19_awake.m K).bind fun t64 => (some t64)))) else ((shutterlaw19_awake.m K).bind fun t65 => (some t65))))) else ((shutterlaw19_awake.m K).bind fun t66 => (some t66)))

theorem shutterlaw19_FrameApart.calls {B I : Gh} {h : Heap} {K : Nat} {x0 : (List Int)} {x1 : api_Frame} {x2 : api_Frame} {a21 : Option Addr} {p22 : Nat} {n23 : Nat} {a25 : Option Addr} {p26 : Nat} {n27 : Nat} {a29 : Option Addr} {p30 : Nat} {n31 : Nat} {r : Bool} (H : shutterlaw19_FrameApart.m K x0 x1 x2 = some r)  :
    Fc Tryd.prog 8 #[.slice a21 n23 p22, .agg #[.int .i64 x1.Dir, .int .i64 x1.Seq, .slice a25 n27 p26], .agg #[.int .i64 x2.Dir, .int .i64 x2.Seq, .slice a29 n31 p30]] [rR (tInt .u8) .b a21 p22 n23 x0, rR (tInt .u8) .b a25 p26 n27 x1.Body, rR (tInt .u8) .b a29 p30 n31 x2.Body, rG] B I h (fun v L => v = .bool r ∧ L = []) := by
 refine fc_of fun E hs => ?_
 unfold shutterlaw19_FrameApart.m at H
 obtain rfl := hs.nR d0
 obtain rfl := hs.nR d1
 obtain rfl := hs.nR d2
 refine fn_of (args := [.slice a21 x0.length p22, .agg #[.int .i64 x1.Dir, .int .i64 x1.Seq, .slice a25 x1.Body.length p26], .agg #[.int .i64 x2.Dir, .int .i64 x2.Seq, .slice a29 x2.Body.length p30]]) (rs := [.tmp 6]) (N := 56) Tryd.func8 rfl rfl rfl rfl ?_
 refine st 2 [] (k_op (nB hs [.int .i64 x1.Dir, .int .i64 x1.Seq, .slice a25 x1.Body.length p26] ?_))
 intro b33 h hs
 refine k_op (nB hs [.int .i64 x2.Dir, .int .i64 x2.Seq, .slice a29 x2.Body.length p30] ?_)
 intro b34 h hs
 obtain ⟨hk, bk⟩ := hs.call tk0 (.c (gK d5) .n)
 refine st 5 [] (k_call H (fun _ m => shutterlaw19_awake.calls m hk) ?_)
 rintro t35 _ h H ⟨I, _, ⟨rfl, rfl⟩, hk⟩
 replace hs := bk hk ct0 rfl
 cases t35
 ·rw [cond_false] at H
  obtain ⟨hk, bk⟩ := hs.call tk0 (.c (gK d5) .n)
  refine st 20 [true] (k_call H (fun _ m => shutterlaw19_awake.calls m hk) ?_)
  rintro t66 _ h H ⟨I, _, ⟨rfl, rfl⟩, hk⟩
  replace hs := bk hk ct0 rfl
  refine st 2 [] ?_
  refine k_retQ ?_
  obtain rfl := Option.some.inj H
  exact ⟨_, by kernel_rfl, I, _, ⟨rfl, rfl⟩, hs.pk .n⟩
 ·rw [cond_true] at H
  refine st 4 [] (k_ite H (fun c36 H => ?_) (fun c36 H => ?_))
  ·obtain ⟨hk, bk⟩ := hs.call tk0 (.c (gK d5) .n)
   refine st 15 [true] (k_call H (fun _ m => shutterlaw19_awake.calls m hk) ?_)
   rintro t37 _ h H ⟨I, _, ⟨rfl, rfl⟩, hk⟩
   replace hs := bk hk ct0 rfl
   refine st 2 [] ?_
   refine k_retQ ?_
   obtain rfl := Option.some.inj H
   exact ⟨_, by kernel_rfl, I, _, ⟨rfl, rfl⟩, hs.pk .n⟩
  ·refine st 2 [] (k_op (lN (hs.bl d1) 0 3 ?_))
   obtain ⟨hk, bk⟩ := hs.call tk0 (.c (qB d3) .n)
   refine k_call H (fun _ m => shutterref19_Wrong.calls m hk) ?_
   rintro t38 _ h H ⟨I, _, ⟨rfl, rfl⟩, hk⟩
   replace hs := bk hk ct0 rfl
   refine k_iteN H (fun c39 H => ?_) (fun c39 H => ?_)
   ·refine st 2 [] (k_op (lN (hs.bl d0) 0 3 ?_))
    obtain ⟨hk, bk⟩ := hs.call tk0 (.c (qB d4) .n)
    refine k_call H (fun _ m => shutterref19_Wrong.calls m hk) ?_
    rintro t40 _ h H ⟨I, _, ⟨rfl, rfl⟩, hk⟩
    replace hs := bk hk ct0 rfl
    refine k_iteN H (fun c41 H => ?_) (fun c41 H => ?_)
    ·refine st 7 [false] (k_op (lN (hs.bl d1) 0 3 ?_))
     obtain ⟨hk, bk⟩ := hs.call tk0 (.c (qB d2) (.c (qB d3) .n))
     refine k_call H (fun _ m => frame_Seal.calls m hk) ?_
     rintro t42 _ h H ⟨I, _, ⟨a43, p44, n45, v47, rfl, rfl⟩, hk⟩
     replace hs := bk hk ct2 rfl
     obtain rfl := hs.nO d0
     refine st 9 [] (k_op (lN (hs.bl d2) 0 3 ?_))
     obtain ⟨hk, bk⟩ := hs.call tk0 (.c (qB d4) (.c (qB d6) .n))
     refine k_call H (fun _ m => frame_Seal.calls m hk) ?_
     rintro t49 _ h H ⟨I, _, ⟨a50, p51, n52, v54, rfl, rfl⟩, hk⟩
     replace hs := bk hk ct2 rfl
     obtain rfl := hs.nO d0
     refine st 7 [] ?_
     obtain ⟨hs0, bk0⟩ := hs.call tk0 (.c (xK d3) (.c (xK d1) (.c (qL d5) (.c (qL d4) (.c (qO d2) (.c (qO d0) (.c (qB d7) (.c (qB d8) .n))))))))
     have hs := hs0
     refine k_regD hs0 16 ?_
     refine aRun [0] 15 hs.keep ?_
     rcases (hs.er d0).cases with ⟨c56, rfl⟩ | ⟨c56, t57, u58, rfl⟩
     ·rw [if_pos c56] at H
      refine aRun [1, 2, 3] 12 hs.keep ?_
      rcases (hs.er d1).cases with ⟨c59, rfl⟩ | ⟨c59, t60, u61, rfl⟩
      ·rw [if_pos c59] at H
       refine aRun [4, 5, 6, 7, 8] 7 hs.keep ?_
       refine aG 10 rfl hs.keep (lls hs0 d2 0 3 rfl) (nmL hs0 d2) ?_
       refine aG 11 rfl hs.keep (lls hs0 d3 0 3 rfl) (nmL hs0 d3) ?_
       refine aO1 9 rfl (o_call H (fun _ m => shutterref01_Same.calls m (hs.sR d4) (hs.sR d5)) ?_)
       rintro t62 _ _ H ⟨rfl, rfl⟩
       refine ⟨hs.keep, ?_⟩
       obtain ⟨hk, bk⟩ := hs.call tk0 (.c (qB d6) (.c (qB d7) .n))
       refine aO1 12 rfl (o_call H (fun _ m => shutterref19_Same.calls m hk) ?_)
       rintro t63 _ h H ⟨I, _, ⟨rfl, rfl⟩, hk⟩
       replace hs := bk hk ct0 rfl
       refine ⟨hs.keep, ?_⟩
       refine aRun [13, 14, 15] 0 hs.keep ?_
       replace hs := hs.pk .n
       replace hs := bk0 hs ct0 rfl
       refine aEnd ?_
       refine k_retQ ?_
       obtain rfl := Option.some.inj H
       exact ⟨_, by kernel_rfl, I, _, ⟨rfl, rfl⟩, hs.pk .n⟩
      ·rw [if_neg c59] at H
       refine aRun [4, 5, 6, 7, 8, 9, 10, 11, 12, 13, 14, 15] 0 hs.keep ?_
       replace hs := hs.pk .n
       replace hs := bk0 hs ct0 rfl
       refine aEnd ?_
       refine k_retQ ?_
       obtain rfl := Option.some.inj H
       exact ⟨_, by kernel_rfl, I, _, ⟨rfl, rfl⟩, hs.pk .n⟩
     ·rw [if_neg c56] at H
      refine aRun [1, 2, 3, 4, 5, 6, 7, 8, 9, 10, 11, 12, 13, 14, 15] 0 hs.keep ?_
      replace hs := hs.pk .n
      replace hs := bk0 hs ct0 rfl
      refine aEnd ?_
      refine k_retQ ?_
      obtain rfl := Option.some.inj H
      exact ⟨_, by kernel_rfl, I, _, ⟨rfl, rfl⟩, hs.pk .n⟩
    ·obtain ⟨hk, bk⟩ := hs.call tk0 (.c (gK d5) .n)
     refine st 5 [true] (k_call H (fun _ m => shutterlaw19_awake.calls m hk) ?_)
     rintro t64 _ h H ⟨I, _, ⟨rfl, rfl⟩, hk⟩
     replace hs := bk hk ct0 rfl
     refine st 2 [] ?_
     refine k_retQ ?_
     obtain rfl := Option.some.inj H
     exact ⟨_, by kernel_rfl, I, _, ⟨rfl, rfl⟩, hs.pk .n⟩
   ·obtain ⟨hk, bk⟩ := hs.call tk0 (.c (gK d5) .n)
    refine st 10 [true] (k_call H (fun _ m => shutterlaw19_awake.calls m hk) ?_)
    rintro t65 _ h H ⟨I, _, ⟨rfl, rfl⟩, hk⟩
    replace hs := bk hk ct0 rfl
    refine st 2 [] ?_
    refine k_retQ ?_
    obtain rfl := Option.some.inj H
    exact ⟨_, by kernel_rfl, I, _, ⟨rfl, rfl⟩, hs.pk .n⟩

end Go.Proofs.YtgljelhakcallaaDoor.Sx
