/- Printed walks, part 3: each function's model, and that the code comes to it. -/
import Derived.Test.YtooaghempnlclaaDoorProg
import Derived.Test.YtooaghempnlclaaDoorV4
import Derived.Test.YtooaghempnlclaaDoorV5
import Derived.Test.YtooaghempnlclaaDoorG2
namespace Go.Proofs.YtooaghempnlclaaDoor.Sx
open Go
set_option maxRecDepth 100000

/-! shutter/shutterlaw19.FrameForged -/
def shutterlaw19_FrameForged.m (K : Nat) (x0 : (List Int)) (x1 : api_Frame) (x2 : Int) (x3 : Int) : Option Bool :=
  ((shutterlaw19_awake.m K).bind fun t30 => bif t30 then (if (x0.length : Int) > 200 then ((shutterlaw19_awake.m K).bind fun t32 => (some t32)) else (if (x1.Body.length : Int) > 486 then ((shutterlaw19_awake.m K).bind fun t34 => (some t34)) else ((shutterref19_Wrong.m x1).bind fun t35 => (if t35 = 0 then ((shutterref19_Seal.m K x0 x1).bind fun t37 => (if (t37.length : Int) ≠ 0 then (if 0 ≤ (Int.tmod (w64 (x2)) (t37.length : Int)) then (if (Int.tmod (w64 (x2)) (t37.length : Int)) < (t37.length : Int) then ((frame_Open.m K x0 x1.Dir (t37.set (Int.tmod (w64 (x2)) (t37.length : Int)).toNat (bXor .u8 (at_ t37 (Int.tmod (w64 (x2)) (t37.length : Int))) x3))).bind fun t48 => ((shutterref19_Open.m K x0 x1.Dir (t37.set (Int.tmod (w64 (x2)) (t37.length : Int)).toNat (bXor .u8 (at_ t37 (Int.tmod (w64 (x2)) (t37.length : Int))) x3))).bind fun t56 => ((shutterref19_Same.m K t48.1 t56.1).bind fun t62 => bif t62 then ((api_Code.m t48.2).bind fun t63 => (if t63 = t56.2 then (if x3 = 0 then (if t48.2 = GoErr.nil then (some true) else (some false)) else (some true)) else (some false))) else (some false)))) else none) else none) else none)) else ((shutterlaw19_awake.m K).bind fun t69 => (some t69)))))) else ((shutterlaw19_awake.m K).bind fun t70 => (some t70)))

theorem shutterlaw19_FrameForged.calls {B I : Gh} {h : Heap} {K : Nat} {x0 : (List Int)} {x1 : api_Frame} {x2 : Int} {x3 : Int} {a21 : Option Addr} {p22 : Nat} {n23 : Nat} {a25 : Option Addr} {p26 : Nat} {n27 : Nat} {r : Bool} (H : shutterlaw19_FrameForged.m K x0 x1 x2 x3 = some r)  :
    Fc Tryd.prog 5 #[.slice a21 n23 p22, .agg #[.int .i64 x1.Dir, .int .i64 x1.Seq, .slice a25 n27 p26], .int .u16 x2, .int .u8 x3] [rR (tInt .u8) .b a21 p22 n23 x0, rR (tInt .u8) .b a25 p26 n27 x1.Body, rG] B I h (fun v L => v = .bool r ∧ L = []) := by
 refine fc_of fun E hs => ?_
 unfold shutterlaw19_FrameForged.m at H
 obtain rfl := hs.nR d0
 obtain rfl := hs.nR d1
 refine fn_of (args := [.slice a21 x0.length p22, .agg #[.int .i64 x1.Dir, .int .i64 x1.Seq, .slice a25 x1.Body.length p26], .int .u16 x2, .int .u8 x3]) (rs := [.tmp 8]) (N := 86) Tryd.func5 rfl rfl rfl rfl ?_
 refine st 2 [] (k_op (nB hs [.int .i64 x1.Dir, .int .i64 x1.Seq, .slice a25 x1.Body.length p26] ?_))
 intro b29 h hs
 obtain ⟨hk, bk⟩ := hs.call tk0 (.c (gK d3) .n)
 refine st 5 [] (k_call H (fun _ m => shutterlaw19_awake.calls m hk) ?_)
 rintro t30 _ h H ⟨I, _, ⟨rfl, rfl⟩, hk⟩
 replace hs := bk hk ct0 rfl
 cases t30
 ·rw [cond_false] at H
  obtain ⟨hk, bk⟩ := hs.call tk0 (.c (gK d3) .n)
  refine st 21 [true] (k_call H (fun _ m => shutterlaw19_awake.calls m hk) ?_)
  rintro t70 _ h H ⟨I, _, ⟨rfl, rfl⟩, hk⟩
  replace hs := bk hk ct0 rfl
  refine st 2 [] ?_
  refine k_retQ ?_
  obtain rfl := Option.some.inj H
  exact ⟨_, by kernel_rfl, I, _, ⟨rfl, rfl⟩, hs.pk .n⟩
 ·rw [cond_true] at H
  refine st 4 [] (k_ite H (fun c31 H => ?_) (fun c31 H => ?_))
  ·obtain ⟨hk, bk⟩ := hs.call tk0 (.c (gK d3) .n)
   refine st 16 [true] (k_call H (fun _ m => shutterlaw19_awake.calls m hk) ?_)
   rintro t32 _ h H ⟨I, _, ⟨rfl, rfl⟩, hk⟩
   replace hs := bk hk ct0 rfl
   refine st 2 [] ?_
   refine k_retQ ?_
   obtain rfl := Option.some.inj H
   exact ⟨_, by kernel_rfl, I, _, ⟨rfl, rfl⟩, hs.pk .n⟩
  ·refine st 3 [] (k_op (lB (hs.bl d0) 2 rfl ?_))
   refine st 1 [] (k_ite H (fun c33 H => ?_) (fun c33 H => ?_))
   ·obtain ⟨hk, bk⟩ := hs.call tk0 (.c (gK d3) .n)
    refine st 10 [true] (k_call H (fun _ m => shutterlaw19_awake.calls m hk) ?_)
    rintro t34 _ h H ⟨I, _, ⟨rfl, rfl⟩, hk⟩
    replace hs := bk hk ct0 rfl
    refine st 2 [] ?_
    refine k_retQ ?_
    obtain rfl := Option.some.inj H
    exact ⟨_, by kernel_rfl, I, _, ⟨rfl, rfl⟩, hs.pk .n⟩
   ·refine st 2 [] (k_op (lN (hs.bl d0) 0 3 ?_))
    obtain ⟨hk, bk⟩ := hs.call tk0 (.c (qB d2) .n)
    refine k_call H (fun _ m => shutterref19_Wrong.calls m hk) ?_
    rintro t35 _ h H ⟨I, _, ⟨rfl, rfl⟩, hk⟩
    replace hs := bk hk ct0 rfl
    refine k_iteN H (fun c36 H => ?_) (fun c36 H => ?_)
    ·refine st 7 [false] (k_op (lN (hs.bl d0) 0 3 ?_))
     obtain ⟨hk, bk⟩ := hs.call tk0 (.c (qB d1) (.c (qB d2) .n))
     refine k_call H (fun _ m => shutterref19_Seal.calls m hk) ?_
     rintro t37 _ h H ⟨I, _, ⟨a38, p39, n40, rfl, rfl⟩, hk⟩
     replace hs := bk hk ct1 rfl
     obtain rfl := hs.nO d0
     refine st 3 [] ?_
     obtain ⟨hs0, bk0⟩ := hs.call tk0 (.c (qO d0) .n)
     have hs := hs0
     refine k_regD hs0 17 ?_
     obtain ⟨c42, H⟩ := guard_pos H
     refine aRun [0, 1, 2, 3, 4] 13 hs.keep ?_
     refine aP 5 (.int .i64 (Int.tmod (w64 (x2)) (t37.length : Int))) rfl (pr_rem (k := .i64) (a := (w64 (x2))) (b := (t37.length : Int)) (by kernel_rfl) (by kernel_rfl) c42) hs.keep ?_
     refine aRun [6, 7, 8, 9, 10] 7 hs.keep ?_
     refine aP 11 (.int .i64 (Int.tmod (w64 (x2)) (t37.length : Int))) rfl (pr_rem (k := .i64) (a := (w64 (x2))) (b := (t37.length : Int)) (by kernel_rfl) (by kernel_rfl) c42) hs.keep ?_
     obtain ⟨c43, H⟩ := guard_pos H
     obtain ⟨c44, H⟩ := guard_pos H
     refine aP 12 (elemPtr a38 ((Int.tmod (w64 (x2)) (t37.length : Int)).toNat * 1)) rfl (pI (e := 5) (ik := .i64) (hs.sR d0) c43 c44) hs.keep ?_
     refine aL 13 rfl hs.keep ((hs0.sR d0).cell1 c43 c44) (nmR hs0 d0 c43 c44) ?_
     refine aRun [14, 15] 2 hs.keep ?_
     refine aP 16 (elemPtr a38 ((Int.tmod (w64 (x2)) (t37.length : Int)).toNat * 1)) rfl (pI (e := 5) (ik := .i64) (hs.sR d0) c43 c44) hs.keep ?_
     replace hs := hs.pk .n
     replace hs := bk0 hs ct0 rfl
     obtain ⟨y46, g45, q47⟩ := (hs.sO d0).toSl.seg c43 c44
     obtain rfl := rep_int q47
     refine aOL 17 rfl (sE hs 0 [.int .u8 (bXor .u8 (at_ t37 (Int.tmod (w64 (x2)) (t37.length : Int))) x3)] (bXor .u8 (at_ t37 (Int.tmod (w64 (x2)) (t37.length : Int))) x3) c43 c44 g45 (ones_of rfl) rfl ?_)
     intro h hs
     refine aEnd ?_
     refine st 4 [] (k_op (lB (hs.bl d1) 0 rfl ?_))
     obtain ⟨hk, bk⟩ := hs.call tk0 (.c (qB d2) (.c (qO d0) .n))
     refine st 1 [] (k_call H (fun _ m => frame_Open.calls m hk) ?_)
     rintro t48 _ h H ⟨I, _, ⟨a49, p50, n51, v53, rfl, rfl⟩, hk⟩
     replace hs := bk hk ct2 rfl
     obtain rfl := hs.nO d0
     refine st 3 [] (k_op (nA hs [.int .i64 0, .int .i64 0, .slice none 0 0] (.agg #[.int .i64 0, .int .i64 0, .slice none 0 0]) ?_))
     intro b55 h hs
     refine k_op (sN hs 0 [.int .i64 t48.1.Dir, .int .i64 t48.1.Seq, .slice a49 t48.1.Body.length p50] [.int .i64 t48.1.Dir, .int .i64 t48.1.Seq, .slice a49 t48.1.Body.length p50] (ones_of rfl) ?_)
     intro h hs
     refine st 6 [] (k_op (lB (hs.bl d4) 0 rfl ?_))
     obtain ⟨hk, bk⟩ := hs.call tk0 (.c (qB d5) (.c (qO d3) .n))
     refine st 1 [] (k_call H (fun _ m => shutterref19_Open.calls m hk) ?_)
     rintro t56 _ h H ⟨I, _, ⟨a57, p58, n59, rfl, rfl⟩, hk⟩
     replace hs := bk hk ct1 rfl
     obtain rfl := hs.nO d0
     refine st 3 [] (k_op (nA hs [.int .i64 0, .int .i64 0, .slice none 0 0] (.agg #[.int .i64 0, .int .i64 0, .slice none 0 0]) ?_))
     intro b61 h hs
     refine k_op (sN hs 0 [.int .i64 t56.1.Dir, .int .i64 t56.1.Seq, .slice a57 t56.1.Body.length p58] [.int .i64 t56.1.Dir, .int .i64 t56.1.Seq, .slice a57 t56.1.Body.length p58] (ones_of rfl) ?_)
     intro h hs
     refine st 4 [] (k_op (lN (hs.bl d2) 0 3 ?_))
     refine k_op (lN (hs.bl d0) 0 3 ?_)
     obtain ⟨hk, bk⟩ := hs.call tk0 (.c (qO d3) (.c (qO d1) .n))
     refine k_call H (fun _ m => shutterref19_Same.calls m hk) ?_
     rintro t62 _ h H ⟨I, _, ⟨rfl, rfl⟩, hk⟩
     replace hs := bk hk ct0 rfl
     cases t62
     ·rw [cond_false] at H
      refine st 16 [] ?_
      refine k_retQ ?_
      obtain rfl := Option.some.inj H
      exact ⟨_, by kernel_rfl, I, _, ⟨rfl, rfl⟩, hs.pk .n⟩
     ·rw [cond_true] at H
      obtain ⟨hk, bk⟩ := hs.call tk0 (.c (xI d4) (.c (gK d9) .n))
      refine st 2 [] (k_call H (fun _ m => api_Code.calls m hk) ?_)
      rintro t63 _ h H ⟨I, _, ⟨rfl, rfl⟩, hk⟩
      replace hs := bk hk ct0 rfl
      refine st 1 [] (k_ite H (fun c64 H => ?_) (fun c64 H => ?_))
      ·refine st 3 [] (k_iteN H (fun c65 H => ?_) (fun c65 H => ?_))
       ·rcases (hs.er d4).cases with ⟨c66, rfl⟩ | ⟨c66, t67, u68, rfl⟩
        ·rw [if_pos c66] at H
         refine st 7 [] ?_
         refine k_retQ ?_
         obtain rfl := Option.some.inj H
         exact ⟨_, by kernel_rfl, I, _, ⟨rfl, rfl⟩, hs.pk .n⟩
        ·rw [if_neg c66] at H
         refine st 7 [] ?_
         refine k_retQ ?_
         obtain rfl := Option.some.inj H
         exact ⟨_, by kernel_rfl, I, _, ⟨rfl, rfl⟩, hs.pk .n⟩
       ·refine st 7 [] ?_
        refine k_retQ ?_
        obtain rfl := Option.some.inj H
        exact ⟨_, by kernel_rfl, I, _, ⟨rfl, rfl⟩, hs.pk .n⟩
      ·refine st 11 [] ?_
       refine k_retQ ?_
       obtain rfl := Option.some.inj H
       exact ⟨_, by kernel_rfl, I, _, ⟨rfl, rfl⟩, hs.pk .n⟩
    ·obtain ⟨hk, bk⟩ := hs.call tk0 (.c (gK d3) .n)
     refine st 5 [true] (k_call H (fun _ m => shutterlaw19_awake.calls m hk) ?_)
     rintro t69 _ h H ⟨I, _, ⟨rfl, rfl⟩, hk⟩
     replace hs := bk hk ct0 rfl
     refine st 2 [] ?_
     refine k_retQ ?_
     obtain rfl := Option.some.inj H
     exact ⟨_, by kernel_rfl, I, _, ⟨rfl, rfl⟩, hs.pk .n⟩

/-! shutter/shutterlaw19.FrameKeeps -/
def shutterlaw19_FrameKeeps.l1.m (K : Nat) : Nat → (List Int) → Int → Option (Unit)
  | 0, _, _ => none
  | k + 1, x59, x64 => (if x64 < (x59.length : Int) then (if 0 ≤ x64 then (shutterlaw19_FrameKeeps.l1.m K k (x59.set x64.toNat (bXor .u8 (at_ x59 x64) 255)) (w64 (x64 + 1))) else none) else (some (())))
def shutterlaw19_FrameKeeps.m (K : Nat) (x0 : (List Int)) (x1 : (List Int)) : Option Bool :=
  ((shutterlaw19_awake.m K).bind fun t29 => bif t29 then (if (x0.length : Int) > 200 then ((shutterlaw19_awake.m K).bind fun t31 => (some t31)) else (if (x1.length : Int) > 400 then ((shutterlaw19_awake.m K).bind fun t33 => (some t33)) else ((app [] x1).bind fun l36 => ((frame_Seal.m K x0 (⟨1, 7, l36⟩ : api_Frame)).bind fun t41 => (letJ (α := Bool → Option Bool) (fun (x49 : Bool) => ((frame_Open.m K x0 1 t41.1).bind fun t51 => ((shutterlaw19_FrameKeeps.l1.m K K t41.1 0).bind fun _ => (if t41.2 = GoErr.nil then (if t51.2 = GoErr.nil then (bif x49 then ((shutterref01_Same.m K t51.1.Body x1).bind fun t80 => (some t80)) else (some false)) else (some false)) else (some false))))) fun (j50 : Bool → Option Bool) => ((shutterref01_Same.m K l36 x1).bind fun t48 => bif t48 then (j50 true) else (j50 false))))))) else ((shutterlaw19_awake.m K).bind fun t82 => (some t82)))

theorem shutterlaw19_FrameKeeps.calls {B I : Gh} {h : Heap} {K : Nat} {x0 : (List Int)} {x1 : (List Int)} {a21 : Option Addr} {p22 : Nat} {n23 : Nat} {a25 : Option Addr} {p26 : Nat} {n27 : Nat} {r : Bool} (H : shutterlaw19_FrameKeeps.m K x0 x1 = some r)  :
    Fc Tryd.prog 6 #[.slice a21 n23 p22, .slice a25 n27 p26] [rR (tInt .u8) .b a21 p22 n23 x0, rR (tInt .u8) .b a25 p26 n27 x1, rG] B I h (fun v L => v = .bool r ∧ L = []) := by
 refine fc_of fun E hs => ?_
 unfold shutterlaw19_FrameKeeps.m at H
 obtain rfl := hs.nR d0
 obtain rfl := hs.nR d1
 refine fn_of (args := [.slice a21 x0.length p22, .slice a25 x1.length p26]) (rs := [.tmp 4]) (N := 73) Tryd.func6 rfl rfl rfl rfl ?_
 obtain ⟨hk, bk⟩ := hs.call tk0 (.c (gK d2) .n)
 refine st 7 [] (k_call H (fun _ m => shutterlaw19_awake.calls m hk) ?_)
 rintro t29 _ h H ⟨I, _, ⟨rfl, rfl⟩, hk⟩
 replace hs := bk hk ct0 rfl
 cases t29
 ·rw [cond_false] at H
  obtain ⟨hk, bk⟩ := hs.call tk0 (.c (gK d2) .n)
  refine st 15 [true] (k_call H (fun _ m => shutterlaw19_awake.calls m hk) ?_)
  rintro t82 _ h H ⟨I, _, ⟨rfl, rfl⟩, hk⟩
  replace hs := bk hk ct0 rfl
  refine st 2 [] ?_
  refine k_retQ ?_
  obtain rfl := Option.some.inj H
  exact ⟨_, by kernel_rfl, I, _, ⟨rfl, rfl⟩, hs.pk .n⟩
 ·rw [cond_true] at H
  refine st 4 [] (k_ite H (fun c30 H => ?_) (fun c30 H => ?_))
  ·obtain ⟨hk, bk⟩ := hs.call tk0 (.c (gK d2) .n)
   refine st 10 [true] (k_call H (fun _ m => shutterlaw19_awake.calls m hk) ?_)
   rintro t31 _ h H ⟨I, _, ⟨rfl, rfl⟩, hk⟩
   replace hs := bk hk ct0 rfl
   refine st 2 [] ?_
   refine k_retQ ?_
   obtain rfl := Option.some.inj H
   exact ⟨_, by kernel_rfl, I, _, ⟨rfl, rfl⟩, hs.pk .n⟩
  ·refine st 4 [] (k_ite H (fun c32 H => ?_) (fun c32 H => ?_))
   ·obtain ⟨hk, bk⟩ := hs.call tk0 (.c (gK d2) .n)
    refine st 5 [true] (k_call H (fun _ m => shutterlaw19_awake.calls m hk) ?_)
    rintro t33 _ h H ⟨I, _, ⟨rfl, rfl⟩, hk⟩
    replace hs := bk hk ct0 rfl
    refine st 2 [] ?_
    refine k_retQ ?_
    obtain rfl := Option.some.inj H
    exact ⟨_, by kernel_rfl, I, _, ⟨rfl, rfl⟩, hs.pk .n⟩
   ·refine st 6 [false] (k_op (nS (e := 5) hs .i (tInt .u8) ([] : List Int) [] 1 (.int .u8 0) (Reps.int (I := (Cl.G .i E.B I)) (k := .u8) (l := [])) ?_))
    intro b34 h hs
    obtain ⟨l36, m37, H⟩ := bind_some H
    refine st 1 [] (k_op (aO (e := 5) (bytes := 1) hs ((hs.sR d2).flat flat_int) m37 ?_))
    intro a38 p39 h hs
    obtain ⟨hk, bk⟩ := hs.call tk0 (.c (qB d1) (.c (qO d0) .n))
    refine st 7 [] (k_call H (fun _ m => frame_Seal.calls m hk) ?_)
    rintro t41 _ h H ⟨I, _, ⟨a42, p43, n44, v46, rfl, rfl⟩, hk⟩
    replace hs := bk hk ct2 rfl
    obtain rfl := hs.nO d0
    refine st 7 [] ?_
    obtain ⟨j50, e81, H⟩ := letJ_some H
    refine k_join (fun ρ h => ∃ (x49 : Bool) (I : Gh), j50 x49 = some r ∧ Fits [(0, .slice a21 x0.length p22), (1, .slice a25 x1.length p26), (6, .slice a42 t41.1.length p43), (7, v46), (8, .bool x49)] ρ ∧ St E [rR (tInt .u8) .b a21 p22 x0.length x0, rR (tInt .u8) .b a25 p26 x1.length x1, rO (tInt .u8) .i a42 p43 t41.1.length t41.1, rE .i v46 t41.2, rG] I h) ?_ ?_
    ·refine st 3 [] (k_call H (fun _ m => shutterref01_Same.calls m ((hs.sO d2)).up1 (hs.sR d4)) ?_)
     rintro t48 _ _ H ⟨rfl, rfl⟩
     cases t48
     ·rw [cond_false] at H
      refine st 2 [] ?_
      exact k_end ⟨false, I, H, ⟨by kernel_rfl, by kernel_rfl, by kernel_rfl, by kernel_rfl, by kernel_rfl, trivial⟩, hs.pk (.c d3 (.c d3 (.c d0 (.c d0 (.c d1 .n)))))⟩
     ·rw [cond_true] at H
      refine st 2 [] ?_
      exact k_end ⟨true, I, H, ⟨by kernel_rfl, by kernel_rfl, by kernel_rfl, by kernel_rfl, by kernel_rfl, trivial⟩, hs.pk (.c d3 (.c d3 (.c d0 (.c d0 (.c d1 .n)))))⟩
    ·clear H
     rintro ρ h ⟨x49, I, H, hf, hs⟩
     refine k_fits _ hf ?_ rfl
     subst e81
     try dsimp only at H
     obtain ⟨hk, bk⟩ := hs.call tk0 (.c (qB d0) (.c (qO d2) .n))
     refine st 4 [] (k_call H (fun _ m => frame_Open.calls m hk) ?_)
     rintro t51 _ h H ⟨I, _, ⟨a52, p53, n54, v56, rfl, rfl⟩, hk⟩
     replace hs := bk hk ct2 rfl
     obtain rfl := hs.nO d0
     refine st 3 [] (k_op (nA hs [.int .i64 0, .int .i64 0, .slice none 0 0] (.agg #[.int .i64 0, .int .i64 0, .slice none 0 0]) ?_))
     intro b58 h hs
     refine k_op (sN hs 0 [.int .i64 t51.1.Dir, .int .i64 t51.1.Seq, .slice a52 t51.1.Body.length p53] [.int .i64 t51.1.Dir, .int .i64 t51.1.Seq, .slice a52 t51.1.Body.length p53] (ones_of rfl) ?_)
     intro h hs
     refine st 8 [] ?_
     obtain ⟨s65, m67, HR66⟩ := bind_some H
     refine k_loop 0 (fun k' ρ h => ∃ (x59 : List Int) (x64 : Int) (a60 : Option Addr) (p61 : Nat) (n62 : Nat) (I : Gh), shutterlaw19_FrameKeeps.l1.m K k' x59 x64 = some s65 ∧ Fits [(1, .slice a25 x1.length p26), (6, .slice a60 n62 p61), (7, v46), (8, .bool x49), (9, .pointer (some ⟨b58, 0, none⟩)), (10, v56), (11, .int .i64 x64)] ρ ∧ St E [rR (tInt .u8) .b a25 p26 x1.length x1, rO (tInt .u8) .i a60 p61 n62 x59, rE .i v46 t41.2, rE .i v56 t51.2, rO (tInt .u8) .i a52 p53 t51.1.Body.length t51.1.Body, rB b58 [.int .i64 t51.1.Dir, .int .i64 t51.1.Seq, .slice a52 t51.1.Body.length p53] 24, rG] I h) (fun ρ h => ∃ (I : Gh), () = s65 ∧ Fits [(1, .slice a25 x1.length p26), (7, v46), (8, .bool x49), (9, .pointer (some ⟨b58, 0, none⟩)), (10, v56)] ρ ∧ St E [rR (tInt .u8) .b a25 p26 x1.length x1, rE .i v46 t41.2, rE .i v56 t51.2, rO (tInt .u8) .i a52 p53 t51.1.Body.length t51.1.Body, rB b58 [.int .i64 t51.1.Dir, .int .i64 t51.1.Seq, .slice a52 t51.1.Body.length p53] 24, rG] I h) K ⟨t41.1, 0, a42, p43, t41.1.length, I, m67, ⟨by kernel_rfl, by kernel_rfl, by kernel_rfl, by kernel_rfl, by kernel_rfl, by kernel_rfl, by kernel_rfl, trivial⟩, hs.pk (.c d4 (.c d4 (.c d4 (.c d2 (.c d1 (.c d0 (.c d1 .n)))))))⟩ ?_ rfl ?_
     ·clear HR66 m67 H
      rintro k' ρ h ⟨x59, x64, a60, p61, n62, I, H, hf, hs⟩
      cases k' with
      | zero => cases H
      | succ k =>
       rw [shutterlaw19_FrameKeeps.l1.m] at H
       refine k_fits _ hf ?_ rfl
       obtain rfl := hs.nO d1
       refine st 6 [] (k_ite H (fun c68 H => ?_) (fun c68 H => ?_))
       ·obtain ⟨c69, H⟩ := guard_pos H
        refine st 10 [true] (k_val (elemPtr a60 (x64.toNat * 1)) (pI (e := 5) (ik := .i64) (hs.sO d1) c69 c68) ?_)
        refine k_op (lC ((hs.sO d1).cell1 c69 c68) ?_)
        refine st 1 [] (k_val (elemPtr a60 (x64.toNat * 1)) (pI (e := 5) (ik := .i64) (hs.sO d1) c69 c68) ?_)
        obtain ⟨y71, g70, q72⟩ := (hs.sO d1).toSl.seg c69 c68
        obtain rfl := rep_int q72
        replace hs := (hs.f d1)
        refine k_op (sE hs 0 [.int .u8 (bXor .u8 (at_ x59 x64) 255)] (bXor .u8 (at_ x59 x64) 255) c69 c68 g70 (ones_of rfl) rfl ?_)
        intro h hs
        refine st 7 [] ?_
        exact k_endL ⟨k, Nat.lt_succ_self _, (x59.set x64.toNat (bXor .u8 (at_ x59 x64) 255)), (w64 (x64 + 1)), a60, p61, x59.length, I, H, ⟨by kernel_rfl, by kernel_rfl, by kernel_rfl, by kernel_rfl, by kernel_rfl, by kernel_rfl, by kernel_rfl, trivial⟩, hs.pk (.c d1 (.c d0 (.c d0 (.c d0 (.c d0 (.c d0 (.c d0 .n)))))))⟩
       ·refine st 2 [false] ?_
        refine k_out rfl ?_
        obtain rfl := Option.some.inj H
        exact xE ⟨I, rfl, ⟨by kernel_rfl, by kernel_rfl, by kernel_rfl, by kernel_rfl, by kernel_rfl, trivial⟩, hs.pk (.c d0 (.c d1 (.c d1 (.c d1 (.c d1 (.c d1 .n))))))⟩
     ·rintro ρ h ⟨I, rfl, hf, hs⟩
      have H := HR66
      try dsimp only at H
      refine k_fits _ hf ?_ rfl
      rcases (hs.er d1).cases with ⟨c73, rfl⟩ | ⟨c73, t74, u75, rfl⟩
      ·rw [if_pos c73] at H
       rcases (hs.er d2).cases with ⟨c76, rfl⟩ | ⟨c76, t77, u78, rfl⟩
       ·rw [if_pos c76] at H
        refine st 9 [] (k_if H (fun c79 H => ?_) (fun c79 H => ?_))
        ·refine st 3 [] (k_op (lB (hs.bl d4) 2 rfl ?_))
         refine st 1 [] (k_call H (fun _ m => shutterref01_Same.calls m ((hs.sO d3)).up1 (hs.sR d0)) ?_)
         rintro t80 _ _ H ⟨rfl, rfl⟩
         refine st 3 [] ?_
         refine k_retQ ?_
         obtain rfl := Option.some.inj H
         exact ⟨_, by kernel_rfl, I, _, ⟨rfl, rfl⟩, hs.pk .n⟩
        ·refine st 9 [] ?_
         refine k_retQ ?_
         obtain rfl := Option.some.inj H
         exact ⟨_, by kernel_rfl, I, _, ⟨rfl, rfl⟩, hs.pk .n⟩
       ·rw [if_neg c76] at H
        refine st 19 [] ?_
        refine k_retQ ?_
        obtain rfl := Option.some.inj H
        exact ⟨_, by kernel_rfl, I, _, ⟨rfl, rfl⟩, hs.pk .n⟩
      ·rw [if_neg c73] at H
       refine st 19 [] ?_
       refine k_retQ ?_
       obtain rfl := Option.some.inj H
       exact ⟨_, by kernel_rfl, I, _, ⟨rfl, rfl⟩, hs.pk .n⟩

/-! shutter/shutterlaw19.FrameApart -/
def shutterlaw19_FrameApart.m (K : Nat) (x0 : (List Int)) (x1 : api_Frame) (x2 : api_Frame) : Option Bool :=
  ((shutterlaw19_awake.m K).bind fun t35 => bif t35 then (if (x0.length : Int) > 200 then ((shutterlaw19_awake.m K).bind fun t37 => (some t37)) else ((shutterref19_Wrong.m x1).bind fun t38 => (if t38 = 0 then ((shutterref19_Wrong.m x2).bind fun t40 => (if t40 = 0 then ((frame_Seal.m K x0 x1).bind fun t42 => ((frame_Seal.m K x0 x2).bind fun t49 => (if t42.2 = GoErr.nil then (if t49.2 = GoErr.nil then ((shutterref01_Same.m K t42.1 t49.1).bind fun t62 => ((shutterref19_Same.m K x1 x2).bind fun t63 => (some (t62 == t63)))) else (some false)) else (some false)))) else ((shutterlaw19_awake.m K).bind fun t64 => (some t64)))) else ((shutterlaw19_awake.m K).bind fun t65 => (some t65))))) else ((shutterlaw19_awake.m K).bind fun t66 => (some t66)))

theorem shutterlaw19_FrameApart.calls {B I : Gh} {h : Heap} {K : Nat} {x0 : (List Int)} {x1 : api_Frame} {x2 : api_Frame} {a21 : Option Addr} {p22 : Nat} {n23 : Nat} {a25 : Option Addr} {p26 : Nat} {n27 : Nat} {a29 : Option Addr} {p30 : Nat} {n31 : Nat} {r : Bool} (H : shutterlaw19_FrameApart.m K x0 x1 x2 = some r)  :
    Fc Tryd.prog 7 #[.slice a21 n23 p22, .agg #[.int .i64 x1.Dir, .int .i64 x1.Seq, .slice a25 n27 p26], .agg #[.int .i64 x2.Dir, .int .i64 x2.Seq, .slice a29 n31 p30]] [rR (tInt .u8) .b a21 p22 n23 x0, rR (tInt .u8) .b a25 p26 n27 x1.Body, rR (tInt .u8) .b a29 p30 n31 x2.Body, rG] B I h (fun v L => v = .bool r ∧ L = []) := by
 refine fc_of fun E hs => ?_
 unfold shutterlaw19_FrameApart.m at H
 obtain rfl := hs.nR d0
 obtain rfl := hs.nR d1
 obtain rfl := hs.nR d2
 refine fn_of (args := [.slice a21 x0.length p22, .agg #[.int .i64 x1.Dir, .int .i64 x1.Seq, .slice a25 x1.Body.length p26], .agg #[.int .i64 x2.Dir, .int .i64 x2.Seq, .slice a29 x2.Body.length p30]]) (rs := [.tmp 6]) (N := 56) Tryd.func7 rfl rfl rfl rfl ?_
 refine st 2 [] (k_op (nB hs [.int .i64 x1.Dir, .int .i64 x1.Seq, .slice a25 x1.Body.length p26] ?_))
 intro b33 h hs
 refine k_op (nB hs [.int .i64 x2.Dir, .int .i64 x2.Seq, .slice a29 x2.Body.length p30] ?_)
 intro b34 h hs
 obtain ⟨hk, bk⟩ := hs.call tk0 (.c (gK d5) .n)
 refine st 5 [] (k_call H (fun _ m => shutterlaw19_awake.calls m hk) ?_)
 rintro t35 _ h H ⟨I, _, ⟨rfl, rfl⟩, hk⟩
 replace hs := bk hk ct0 rfl
 cases t35
 ·rw [cond_false] at H
  obtain ⟨hk, bk⟩ := hs.call tk0 (.c (gK d5) .n)
  refine st 20 [true] (k_call H (fun _ m => shutterlaw19_awake.calls m hk) ?_)
  rintro t66 _ h H ⟨I, _, ⟨rfl, rfl⟩, hk⟩
  replace hs := bk hk ct0 rfl
  refine st 2 [] ?_
  refine k_retQ ?_
  obtain rfl := Option.some.inj H
  exact ⟨_, by kernel_rfl, I, _, ⟨rfl, rfl⟩, hs.pk .n⟩
 ·rw [cond_true] at H
  refine st 4 [] (k_ite H (fun c36 H => ?_) (fun c36 H => ?_))
  ·obtain ⟨hk, bk⟩ := hs.call tk0 (.c (gK d5) .n)
   refine st 15 [true] (k_call H (fun _ m => shutterlaw19_awake.calls m hk) ?_)
   rintro t37 _ h H ⟨I, _, ⟨rfl, rfl⟩, hk⟩
   replace hs := bk hk ct0 rfl
   refine st 2 [] ?_
   refine k_retQ ?_
   obtain rfl := Option.some.inj H
   exact ⟨_, by kernel_rfl, I, _, ⟨rfl, rfl⟩, hs.pk .n⟩
  ·refine st 2 [] (k_op (lN (hs.bl d1) 0 3 ?_))
   obtain ⟨hk, bk⟩ := hs.call tk0 (.c (qB d3) .n)
   refine k_call H (fun _ m => shutterref19_Wrong.calls m hk) ?_
   rintro t38 _ h H ⟨I, _, ⟨rfl, rfl⟩, hk⟩
   replace hs := bk hk ct0 rfl
   refine k_iteN H (fun c39 H => ?_) (fun c39 H => ?_)
   ·refine st 2 [] (k_op (lN (hs.bl d0) 0 3 ?_))
    obtain ⟨hk, bk⟩ := hs.call tk0 (.c (qB d4) .n)
    refine k_call H (fun _ m => shutterref19_Wrong.calls m hk) ?_
    rintro t40 _ h H ⟨I, _, ⟨rfl, rfl⟩, hk⟩
    replace hs := bk hk ct0 rfl
    refine k_iteN H (fun c41 H => ?_) (fun c41 H => ?_)
    ·refine st 7 [false] (k_op (lN (hs.bl d1) 0 3 ?_))
     obtain ⟨hk, bk⟩ := hs.call tk0 (.c (qB d2) (.c (qB d3) .n))
     refine k_call H (fun _ m => frame_Seal.calls m hk) ?_
     rintro t42 _ h H ⟨I, _, ⟨a43, p44, n45, v47, rfl, rfl⟩, hk⟩
     replace hs := bk hk ct2 rfl
     obtain rfl := hs.nO d0
     refine st 9 [] (k_op (lN (hs.bl d2) 0 3 ?_))
     obtain ⟨hk, bk⟩ := hs.call tk0 (.c (qB d4) (.c (qB d6) .n))
     refine k_call H (fun _ m => frame_Seal.calls m hk) ?_
     rintro t49 _ h H ⟨I, _, ⟨a50, p51, n52, v54, rfl, rfl⟩, hk⟩
     replace hs := bk hk ct2 rfl
     obtain rfl := hs.nO d0
     refine st 7 [] ?_
     obtain ⟨hs0, bk0⟩ := hs.call tk0 (.c (xK d3) (.c (xK d1) (.c (qL d5) (.c (qL d4) (.c (qO d2) (.c (qO d0) (.c (qB d7) (.c (qB d8) .n))))))))
     have hs := hs0
     refine k_regD hs0 16 ?_
     refine aRun [0] 15 hs.keep ?_
     rcases (hs.er d0).cases with ⟨c56, rfl⟩ | ⟨c56, t57, u58, rfl⟩
     ·rw [if_pos c56] at H
      refine aRun [1, 2, 3] 12 hs.keep ?_
      rcases (hs.er d1).cases with ⟨c59, rfl⟩ | ⟨c59, t60, u61, rfl⟩
      ·rw [if_pos c59] at H
       refine aRun [4, 5, 6, 7, 8] 7 hs.keep ?_
       refine aG 10 rfl hs.keep (lls hs0 d2 0 3 rfl) (nmL hs0 d2) ?_
       refine aG 11 rfl hs.keep (lls hs0 d3 0 3 rfl) (nmL hs0 d3) ?_
       refine aO1 9 rfl (o_call H (fun _ m => shutterref01_Same.calls m (hs.sR d4) (hs.sR d5)) ?_)
       rintro t62 _ _ H ⟨rfl, rfl⟩
       refine ⟨hs.keep, ?_⟩
       obtain ⟨hk, bk⟩ := hs.call tk0 (.c (qB d6) (.c (qB d7) .n))
       refine aO1 12 rfl (o_call H (fun _ m => shutterref19_Same.calls m hk) ?_)
       rintro t63 _ h H ⟨I, _, ⟨rfl, rfl⟩, hk⟩
       replace hs := bk hk ct0 rfl
       refine ⟨hs.keep, ?_⟩
       refine aRun [13, 14, 15] 0 hs.keep ?_
       replace hs := hs.pk .n
       replace hs := bk0 hs ct0 rfl
       refine aEnd ?_
       refine k_retQ ?_
       obtain rfl := Option.some.inj H
       exact ⟨_, by kernel_rfl, I, _, ⟨rfl, rfl⟩, hs.pk .n⟩
      ·rw [if_neg c59] at H
       refine aRun [4, 5, 6, 7, 8, 9, 10, 11, 12, 13, 14, 15] 0 hs.keep ?_
       replace hs := hs.pk .n
       replace hs := bk0 hs ct0 rfl
       refine aEnd ?_
       refine k_retQ ?_
       obtain rfl := Option.some.inj H
       exact ⟨_, by kernel_rfl, I, _, ⟨rfl, rfl⟩, hs.pk .n⟩
     ·rw [if_neg c56] at H
      refine aRun [1, 2, 3, 4, 5, 6, 7, 8, 9, 10, 11, 12, 13, 14, 15] 0 hs.keep ?_
      replace hs := hs.pk .n
      replace hs := bk0 hs ct0 rfl
      refine aEnd ?_
      refine k_retQ ?_
      obtain rfl := Option.some.inj H
      exact ⟨_, by kernel_rfl, I, _, ⟨rfl, rfl⟩, hs.pk .n⟩
    ·obtain ⟨hk, bk⟩ := hs.call tk0 (.c (gK d5) .n)
     refine st 5 [true] (k_call H (fun _ m => shutterlaw19_awake.calls m hk) ?_)
     rintro t64 _ h H ⟨I, _, ⟨rfl, rfl⟩, hk⟩
     replace hs := bk hk ct0 rfl
     refine st 2 [] ?_
     refine k_retQ ?_
     obtain rfl := Option.some.inj H
     exact ⟨_, by kernel_rfl, I, _, ⟨rfl, rfl⟩, hs.pk .n⟩
   ·obtain ⟨hk, bk⟩ := hs.call tk0 (.c (gK d5) .n)
    refine st 10 [true] (k_call H (fun _ m => shutterlaw19_awake.calls m hk) ?_)
    rintro t65 _ h H ⟨I, _, ⟨rfl, rfl⟩, hk⟩
    replace hs := bk hk ct0 rfl
    refine st 2 [] ?_
    refine k_retQ ?_
    obtain rfl := Option.some.inj H
    exact ⟨_, by kernel_rfl, I, _, ⟨rfl, rfl⟩, hs.pk .n⟩

/-! (*shutter/bytes.Cursor).At -/
def bytes_Cursor_At.m (x0 : bytes_Cursor) : Option (Int × bytes_Cursor) :=
  (some (x0.at', x0))

theorem bytes_Cursor_At.calls {B I : Gh} {h : Heap} {x0 : bytes_Cursor} {b0 : Nat} {v21 : Value} {v22 : Value} {r : (Int × bytes_Cursor)} (H : bytes_Cursor_At.m x0 = some r)  :
    Fc Tryd.prog 32 #[.pointer (some ⟨b0, 0, none⟩)] [rB b0 [v21, .int .i64 x0.at', v22] 63] B I h (fun v L => v = .int .i64 r.1 ∧ L = [rB b0 [v21, .int .i64 r.2.at', v22] 63]) := by
 refine fc_of fun E hs => ?_
 unfold bytes_Cursor_At.m at H
 refine fn_of (args := [.pointer (some ⟨b0, 0, none⟩)]) (rs := [.tmp 2]) (N := 7) Tryd.func32 rfl rfl rfl rfl ?_
 refine st 9 [] (k_op (lB (hs.bl d0) 1 rfl ?_))
 refine st 2 [] ?_
 refine k_retQ ?_
 obtain rfl := Option.some.inj H
 exact ⟨_, by kernel_rfl, I, _, ⟨rfl, rfl⟩, hs.pk (.c d0 .n)⟩

/-! shutter/bytes.New -/
def bytes_New.m (x0 : (List Int)) : Option bytes_Cursor :=
  ((slices_Clone_bytes.m x0).bind fun t25 => (some (⟨t25, 0, GoErr.nil⟩ : bytes_Cursor)))

theorem bytes_New.calls {B I : Gh} {h : Heap} {x0 : (List Int)} {a21 : Option Addr} {p22 : Nat} {n23 : Nat} {r : bytes_Cursor} (H : bytes_New.m x0 = some r)  :
    Fc Tryd.prog 19 #[.slice a21 n23 p22] [rR (tInt .u8) .b a21 p22 n23 x0] B I h (fun v L => ∃ (b31 : Nat) (a32 : Option Addr) (p33 : Nat) (n34 : Nat) (v36 : Value), v = .pointer (some ⟨b31, 0, none⟩) ∧ L = [rB b31 [.slice a32 n34 p33, .int .i64 r.at', v36] 63, rR (tInt .u8) .i a32 p33 n34 r.b', rE .i v36 r.err']) := by
 refine fc_of fun E hs => ?_
 unfold bytes_New.m at H
 obtain rfl := hs.nR d0
 refine fn_of (args := [.slice a21 x0.length p22]) (rs := [.tmp 2]) (N := 7) Tryd.func19 rfl rfl rfl rfl ?_
 obtain ⟨hk, bk⟩ := hs.call tk0 (.c (qB d0) .n)
 refine st 7 [] (k_call H (fun _ m => slices_Clone_bytes.calls m hk) ?_)
 rintro t25 _ h H ⟨I, _, ⟨a26, p27, n28, rfl, rfl⟩, hk⟩
 replace hs := bk hk ct1 rfl
 obtain rfl := hs.nO d0
 refine st 1 [] (k_op (nB hs [.slice a26 t25.length p27, .int .i64 0, .nilIface] ?_))
 intro b30 h hs
 refine st 2 [] ?_
 refine k_retQ ?_
 obtain rfl := Option.some.inj H
 obtain ⟨I, hs⟩ := (hs.f d1).fO
 exact ⟨_, by kernel_rfl, I, _, ⟨b30, a26, p27, t25.length, (.nilIface), rfl, rfl⟩, hs.pk (.c d1 (.c d0 (.f imEN .n)))⟩

/-! (*shutter/bytes.Cursor).Left -/
def bytes_Cursor_Left.m (x0 : bytes_Cursor) : Option (Int × bytes_Cursor) :=
  (some ((w64 ((x0.b'.length : Int) - x0.at')), x0))

theorem bytes_Cursor_Left.calls {B I : Gh} {h : Heap} {x0 : bytes_Cursor} {b0 : Nat} {a21 : Option Addr} {p22 : Nat} {n23 : Nat} {v25 : Value} {r : (Int × bytes_Cursor)} (H : bytes_Cursor_Left.m x0 = some r)  :
    Fc Tryd.prog 33 #[.pointer (some ⟨b0, 0, none⟩)] [rB b0 [.slice a21 n23 p22, .int .i64 x0.at', v25] 63, rR (tInt .u8) .i a21 p22 n23 x0.b'] B I h (fun v L => ∃ (a26 : Option Addr) (p27 : Nat) (n28 : Nat), v = .int .i64 r.1 ∧ L = [rB b0 [.slice a26 n28 p27, .int .i64 r.2.at', v25] 63, rR (tInt .u8) .i a26 p27 n28 r.2.b']) := by
 refine fc_of fun E hs => ?_
 unfold bytes_Cursor_Left.m at H
 obtain rfl := hs.nR d1
 refine fn_of (args := [.pointer (some ⟨b0, 0, none⟩)]) (rs := [.tmp 2]) (N := 13) Tryd.func33 rfl rfl rfl rfl ?_
 refine st 5 [] ?_
 obtain ⟨hs0, bk0⟩ := hs.call tk0 (.c (qL d0) .n)
 have hs := hs0
 refine k_regD hs0 11 ?_
 refine aRun [0, 1, 2] 8 hs.keep ?_
 refine aL 3 rfl hs.keep (ll hs0 d0 (n := 0) rfl) (nmL hs0 d0) ?_
 refine aRun [4, 5, 6, 7] 3 hs.keep ?_
 refine aL 8 rfl hs.keep (ll hs0 d0 (n := 1) rfl) (nmL hs0 d0) ?_
 refine aRun [9, 10] 0 hs.keep ?_
 replace hs := hs.pk .n
 replace hs := bk0 hs ct0 rfl
 refine aEnd ?_
 refine k_retQ ?_
 obtain rfl := Option.some.inj H
 exact ⟨_, by kernel_rfl, I, _, ⟨a21, p22, x0.b'.length, rfl, rfl⟩, hs.pk (.c d0 (.c d0 .n))⟩

/-! (*shutter/bytes.Cursor).Fail -/
def bytes_Cursor_Fail.m (x0 : bytes_Cursor) (x1 : GoErr) : Option bytes_Cursor :=
  (letJ (α := Bool → Option bytes_Cursor) (fun (x33 : Bool) => (bif x33 then (some (⟨x0.b', x0.at', (GoErr.spot x0.at' x1)⟩ : bytes_Cursor)) else (some x0))) fun (j35 : Bool → Option bytes_Cursor) => (if x0.err' = GoErr.nil then (if x1 = GoErr.nil then (j35 false) else (j35 true)) else (j35 false)))

theorem bytes_Cursor_Fail.calls {B I : Gh} {h : Heap} {x0 : bytes_Cursor} {x1 : GoErr} {b0 : Nat} {v21 : Value} {v22 : Value} {v24 : Value} {r : bytes_Cursor} (H : bytes_Cursor_Fail.m x0 x1 = some r)  :
    Fc Tryd.prog 34 #[.pointer (some ⟨b0, 0, none⟩), v24] [rB b0 [v21, .int .i64 x0.at', v22] 63, rE .i v22 x0.err', rE .i v24 x1] B I h (fun v L => ∃ (v43 : Value), v = .tuple #[] ∧ L = [rB b0 [v21, .int .i64 r.at', v43] 63, rE .i v43 r.err']) := by
 refine fc_of fun E hs => ?_
 unfold bytes_Cursor_Fail.m at H
 refine fn_of (args := [.pointer (some ⟨b0, 0, none⟩), v24]) (rs := []) (N := 24) Tryd.func34 rfl rfl rfl rfl ?_
 refine st 1 [] ?_
 obtain ⟨j35, e42, H⟩ := letJ_some H
 refine k_join (fun ρ h => ∃ (x33 : Bool) (v32 : Value) (v34 : Value) (I : Gh), j35 x33 = some r ∧ Fits [(0, .pointer (some ⟨b0, 0, none⟩)), (1, v32), (12, .bool x33)] ρ ∧ St E [rE .i v32 x1, rE .i v34 x0.err', rB b0 [v21, .int .i64 x0.at', v34] 63] I h) ?_ ?_
 ·refine st 4 [] (k_op (lB (hs.bl d0) 2 rfl ?_))
  rcases (hs.er d1).cases with ⟨c26, rfl⟩ | ⟨c26, t27, u28, rfl⟩
  ·rw [if_pos c26] at H
   rcases (hs.er d2).cases with ⟨c29, rfl⟩ | ⟨c29, t30, u31, rfl⟩
   ·rw [if_pos c29] at H
    refine st 6 [] ?_
    exact k_end ⟨false, .nilIface, .nilIface, I, H, ⟨by kernel_rfl, by kernel_rfl, by kernel_rfl, trivial⟩, hs.pk (.c d2 (.c d1 (.c d0 .n)))⟩
   ·rw [if_neg c29] at H
    refine st 6 [] ?_
    exact k_end ⟨true, (.iface t30 u31), .nilIface, I, H, ⟨by kernel_rfl, by kernel_rfl, by kernel_rfl, trivial⟩, hs.pk (.c d2 (.c d1 (.c d0 .n)))⟩
  ·rw [if_neg c26] at H
   refine st 6 [] ?_
   exact k_end ⟨false, v24, (.iface t27 u28), I, H, ⟨by kernel_rfl, by kernel_rfl, by kernel_rfl, trivial⟩, hs.pk (.c d2 (.c d1 (.c d0 .n)))⟩
 ·clear H
  rintro ρ h ⟨x33, v32, v34, I, H, hf, hs⟩
  refine k_fits _ hf ?_ rfl
  subst e42
  try dsimp only at H
  cases x33
  ·rw [cond_false] at H
   refine st 2 [false] ?_
   refine k_fin ?_
   obtain rfl := Option.some.inj H
   exact ⟨_, by kernel_rfl, I, _, ⟨(v34), rfl, rfl⟩, hs.pk (.c d2 (.c d1 .n))⟩
  ·rw [cond_true] at H
   refine st 6 [true] (k_op (lB (hs.bl d2) 1 rfl ?_))
   rcases (hs.er d0).cases with ⟨c36, rfl⟩ | ⟨c36, t37, u38, rfl⟩
   ·refine st 2 [] (k_op (nB hs [.int .i64 x0.at', .nilIface] ?_))
    intro b39 h hs
    have q40 := (hs.er d1)
    obtain ⟨I, hs⟩ := hs.fS q40
    refine st 3 [] (k_op (sB (v := (.iface 83 (.pointer (some ⟨b39, 0, none⟩)))) (hs.f d3) cw2 ?_))
    intro h hs
    refine st 1 [] ?_
    refine k_fin ?_
    obtain rfl := Option.some.inj H
    exact ⟨_, by kernel_rfl, I, _, ⟨((.iface 83 (.pointer (some ⟨b39, 0, none⟩)))), rfl, rfl⟩, hs.pk (.c d0 (.c d0 .n))⟩
   ·refine st 2 [] (k_op (nB hs [.int .i64 x0.at', (.iface t37 u38)] ?_))
    intro b39 h hs
    have q40 := (hs.er d1)
    obtain ⟨I, hs⟩ := hs.fS q40
    refine st 3 [] (k_op (sB (v := (.iface 83 (.pointer (some ⟨b39, 0, none⟩)))) (hs.f d3) cw2 ?_))
    intro h hs
    refine st 1 [] ?_
    refine k_fin ?_
    obtain rfl := Option.some.inj H
    exact ⟨_, by kernel_rfl, I, _, ⟨((.iface 83 (.pointer (some ⟨b39, 0, none⟩)))), rfl, rfl⟩, hs.pk (.c d0 (.c d0 .n))⟩

/-! (*shutter/bytes.Cursor).Take -/
def bytes_Cursor_Take.m (x0 : bytes_Cursor) (x1 : Int) : Option ((List Int) × bytes_Cursor) :=
  (letJ (α := (List Int) → Int → GoErr → Option ((List Int) × bytes_Cursor)) (fun (x40 : List Int) (x45 : Int) (x46 : GoErr) => (if x46 = GoErr.nil then (if 0 ≤ (w64 ((w64 (x45 + x1)) - x1)) then (if (w64 ((w64 (x45 + x1)) - x1)) ≤ (w64 (x45 + x1)) then (if (w64 (x45 + x1)) ≤ (x40.length : Int) then ((slices_Clone_bytes.m (sub x40 (w64 ((w64 (x45 + x1)) - x1)) (w64 (x45 + x1)))).bind fun t56 => (some (t56, (⟨x40, (w64 (x45 + x1)), x46⟩ : bytes_Cursor)))) else none) else none) else none) else (some ([], (⟨x40, x45, x46⟩ : bytes_Cursor))))) fun (j49 : (List Int) → Int → GoErr → Option ((List Int) × bytes_Cursor)) => (if x1 < 0 then ((bytes_Cursor_Fail.m x0 (GoErr.no 2)).bind fun t28 => (j49 x0.b' t28.at' t28.err')) else ((bytes_Cursor_Left.m x0).bind fun t31 => (if x1 > t31.1 then ((bytes_Cursor_Fail.m (⟨t31.2.b', t31.2.at', x0.err'⟩ : bytes_Cursor) (GoErr.no 2)).bind fun t37 => (j49 t31.2.b' t37.at' t37.err')) else (j49 t31.2.b' t31.2.at' x0.err')))))

theorem bytes_Cursor_Take.calls {B I : Gh} {h : Heap} {x0 : bytes_Cursor} {x1 : Int} {b0 : Nat} {a21 : Option Addr} {p22 : Nat} {n23 : Nat} {v25 : Value} {r : ((List Int) × bytes_Cursor)} (H : bytes_Cursor_Take.m x0 x1 = some r)  :
    Fc Tryd.prog 20 #[.pointer (some ⟨b0, 0, none⟩), .int .i64 x1] [rB b0 [.slice a21 n23 p22, .int .i64 x0.at', v25] 63, rR (tInt .u8) .i a21 p22 n23 x0.b', rE .i v25 x0.err'] B I h (fun v L => ∃ (a62 : Option Addr) (p63 : Nat) (n64 : Nat) (a66 : Option Addr) (p67 : Nat) (n68 : Nat) (v70 : Value), v = .slice a62 n64 p63 ∧ L = [rO (tInt .u8) .i a62 p63 n64 r.1, rB b0 [.slice a66 n68 p67, .int .i64 r.2.at', v70] 63, rR (tInt .u8) .i a66 p67 n68 r.2.b', rE .i v70 r.2.err']) := by
 refine fc_of fun E hs => ?_
 unfold bytes_Cursor_Take.m at H
 obtain rfl := hs.nR d1
 refine fn_of (args := [.pointer (some ⟨b0, 0, none⟩), .int .i64 x1]) (rs := [.tmp 4]) (N := 45) Tryd.func20 rfl rfl rfl rfl ?_
 refine st 5 [] ?_
 obtain ⟨j49, e61, H⟩ := letJ_some H
 refine k_join (fun ρ h => ∃ (x40 : List Int) (x45 : Int) (x46 : GoErr) (a41 : Option Addr) (p42 : Nat) (n43 : Nat) (v47 : Value) (I : Gh), j49 x40 x45 x46 = some r ∧ Fits [(0, .pointer (some ⟨b0, 0, none⟩)), (1, .int .i64 x1)] ρ ∧ St E [rR (tInt .u8) .i a41 p42 n43 x40, rE .i v47 x46, rB b0 [.slice a41 n43 p42, .int .i64 x45, v47] 63] I h) ?_ ?_
 ·refine st 3 [] (k_ite H (fun c27 H => ?_) (fun c27 H => ?_))
  ·obtain ⟨hk, bk⟩ := hs.call tk1 (.c (xK d1) (.c xC .n))
   refine st 11 [true] (k_call H (fun _ m => bytes_Cursor_Fail.calls m hk) ?_)
   rintro t28 _ h H ⟨I, _, ⟨v29, rfl, rfl⟩, hk⟩
   replace hs := bk hk ct2 rfl
   refine st 1 [] ?_
   exact k_end ⟨x0.b', t28.at', t28.err', a21, p22, x0.b'.length, v29, I, H, ⟨by kernel_rfl, by kernel_rfl, trivial⟩, hs.pk (.c d2 (.c d1 (.c d0 .n)))⟩
  ·obtain ⟨hk, bk⟩ := hs.call tk1 (.c (qK d0) .n)
   refine st 3 [] (k_call H (fun _ m => bytes_Cursor_Left.calls m hk) ?_)
   rintro t31 _ h H ⟨I, _, ⟨a32, p33, n34, rfl, rfl⟩, hk⟩
   replace hs := bk hk ct2 rfl
   obtain rfl := hs.nR d1
   refine k_ite H (fun c36 H => ?_) (fun c36 H => ?_)
   ·obtain ⟨hk, bk⟩ := hs.call tk1 (.c (xK d2) (.c xC .n))
    refine st 6 [true] (k_call H (fun _ m => bytes_Cursor_Fail.calls m hk) ?_)
    rintro t37 _ h H ⟨I, _, ⟨v38, rfl, rfl⟩, hk⟩
    replace hs := bk hk ct2 rfl
    refine st 1 [] ?_
    exact k_end ⟨t31.2.b', t37.at', t37.err', a32, p33, t31.2.b'.length, v38, I, H, ⟨by kernel_rfl, by kernel_rfl, trivial⟩, hs.pk (.c d2 (.c d1 (.c d0 .n)))⟩
   ·refine st 4 [false] ?_
    exact k_end ⟨t31.2.b', t31.2.at', x0.err', a32, p33, t31.2.b'.length, v25, I, H, ⟨by kernel_rfl, by kernel_rfl, trivial⟩, hs.pk (.c d1 (.c d2 (.c d0 .n)))⟩
 ·clear H
  rintro ρ h ⟨x40, x45, x46, a41, p42, n43, v47, I, H, hf, hs⟩
  refine k_fits _ hf ?_ rfl
  subst e61
  try dsimp only at H
  obtain rfl := hs.nR d0
  refine st 6 [] (k_op (lB (hs.bl d2) 2 rfl ?_))
  rcases (hs.er d1).cases with ⟨c50, rfl⟩ | ⟨c50, t51, u52, rfl⟩
  ·rw [if_pos c50] at H
   refine st 9 [false] (k_op (lB (hs.bl d2) 1 rfl ?_))
   refine st 4 [] (k_op (sB (v := .int .i64 (w64 (x45 + x1))) (hs.f d2) cw1 ?_))
   intro h hs
   refine st 2 [] ?_
   obtain ⟨hs0, bk0⟩ := hs.call tk0 (.c (qL d0) (.c (qK d1) .n))
   have hs := hs0
   refine k_regD hs0 17 ?_
   refine aRun [0, 1, 2] 14 hs.keep ?_
   refine aL 3 rfl hs.keep (ll hs0 d0 (n := 0) rfl) (nmL hs0 d0) ?_
   refine aRun [4, 5, 6] 10 hs.keep ?_
   refine aL 7 rfl hs.keep (ll hs0 d0 (n := 1) rfl) (nmL hs0 d0) ?_
   refine aRun [8, 9, 10, 11, 12] 4 hs.keep ?_
   refine aL 13 rfl hs.keep (ll hs0 d0 (n := 1) rfl) (nmL hs0 d0) ?_
   obtain ⟨c53, H⟩ := guard_pos H
   obtain ⟨c54, H⟩ := guard_pos H
   obtain ⟨c55, H⟩ := guard_pos H
   refine aP 14 (.slice (slA a41 p42 (Int.toNat (w64 ((w64 (x45 + x1)) - x1))) 1) ((sub x40 (w64 ((w64 (x45 + x1)) - x1)) (w64 (x45 + x1))).length) (p42 - Int.toNat (w64 ((w64 (x45 + x1)) - x1)))) rfl (pS (e := 5) (k1 := .i64) (k2 := .i64) (hs.sR d1) c53 c54 c55) hs.keep ?_
   obtain ⟨hk, bk⟩ := hs.call tk0 (.c (qP (qI d1) (lo := (w64 ((w64 (x45 + x1)) - x1))) (hi := (w64 (x45 + x1))) c53 c54 c55) .n)
   refine aO1 15 rfl (o_call H (fun _ m => slices_Clone_bytes.calls m hk) ?_)
   rintro t56 _ h H ⟨I, _, ⟨a57, p58, n59, rfl, rfl⟩, hk⟩
   replace hs := bk hk ct1 rfl
   obtain rfl := hs.nO d0
   refine ⟨hs.keep, ?_⟩
   refine aRun [16] 0 hs.keep ?_
   replace hs := hs.pk (.c d0 .n)
   replace hs := bk0 hs ct1 rfl
   refine aEnd ?_
   refine k_retQ ?_
   obtain rfl := Option.some.inj H
   exact ⟨_, by kernel_rfl, I, _, ⟨a57, p58, t56.length, a41, p42, x40.length, (.nilIface), rfl, rfl⟩, hs.pk (.c d0 (.c d0 (.c d0 (.c d0 .n))))⟩
  ·rw [if_neg c50] at H
   refine st 7 [true] ?_
   refine k_retQ ?_
   obtain rfl := Option.some.inj H
   exact ⟨_, by kernel_rfl, I, _, ⟨none, 0, 0, a41, p42, x40.length, ((.iface t51 u52)), rfl, rfl⟩, hs.pk (.f imON (.c d2 (.c d0 (.c d0 .n))))⟩

/-! shutter/attr.Char -/
def attr_Char.m (x0 : Int) : Option Bool :=
  (if x0 = 0 then (some true) else (if x0 = 28 then (some true) else (if x0 = 30 then (some true) else (if x0 ≥ 64 then (some (x0 != 255)) else (some false)))))

theorem attr_Char.calls {x0 : Int} {h : Heap} {r : Bool} (H : attr_Char.m x0 = some r)   :
    Ret Tryd.prog 43 #[.int .u8 x0] h (fun v h' => .bool r = v ∧ h' = h) := by
 unfold attr_Char.m at H
 refine fn_of (args := [.int .u8 x0]) (rs := [.tmp 2]) (N := 15) Tryd.func43 rfl rfl rfl rfl ?_
 refine st 17 [] (k_ite H (fun c21 H => ?_) (fun c21 H => ?_))
 ·refine st 10 [true] ?_
  refine k_retQ ?_
  obtain rfl := Option.some.inj H
  exact ⟨_, by kernel_rfl, rfl, rfl⟩
 ·refine st 7 [false] (k_ite H (fun c22 H => ?_) (fun c22 H => ?_))
  ·refine st 11 [true, true] ?_
   refine k_retQ ?_
   obtain rfl := Option.some.inj H
   exact ⟨_, by kernel_rfl, rfl, rfl⟩
  ·refine st 4 [false] (k_ite H (fun c23 H => ?_) (fun c23 H => ?_))
   ·refine st 9 [true] ?_
    refine k_retQ ?_
    obtain rfl := Option.some.inj H
    exact ⟨_, by kernel_rfl, rfl, rfl⟩
   ·refine st 8 [false] (k_ite H (fun c24 H => ?_) (fun c24 H => ?_))
    ·refine st 6 [] ?_
     refine k_retQ ?_
     obtain rfl := Option.some.inj H
     exact ⟨_, by kernel_rfl, rfl, rfl⟩
    ·refine st 6 [] ?_
     refine k_retQ ?_
     obtain rfl := Option.some.inj H
     exact ⟨_, by kernel_rfl, rfl, rfl⟩

/-! (*shutter/bytes.Cursor).Chars$1 -/
def bytes_Cursor_Chars_1.m (x0 : Int) : Option Bool :=
  ((attr_Char.m x0).bind fun t21 => (some (!t21)))

theorem bytes_Cursor_Chars_1.calls {x0 : Int} {h : Heap} {r : Bool} (H : bytes_Cursor_Chars_1.m x0 = some r)   :
    Ret Tryd.prog 42 #[.int .u8 x0] h (fun v h' => .bool r = v ∧ h' = h) := by
 unfold bytes_Cursor_Chars_1.m at H
 refine fn_of (args := [.int .u8 x0]) (rs := [.tmp 2]) (N := 6) Tryd.func42 rfl rfl rfl rfl ?_
 refine st 7 [] (k_call H (fun _ m => attr_Char.calls m) ?_)
 rintro t21 _ _ H ⟨rfl, rfl⟩
 refine st 3 [] ?_
 refine k_retQ ?_
 obtain rfl := Option.some.inj H
 exact ⟨_, by kernel_rfl, rfl, rfl⟩

/-! slices.IndexFunc[[]byte,byte] -/
def slices_IndexFunc_bytes__bytes_Cursor_Chars_1.l1.m (K : Nat) (x0 : (List Int)) : Nat → Int → Option (Int ⊕ (Unit))
  | 0, _ => none
  | k + 1, x26 => (letJ (α := Bool → Option (Int ⊕ (Unit))) (fun (x31 : Bool) => (bif x31 then (if 0 ≤ x26 then (if x26 < (x0.length : Int) then ((bytes_Cursor_Chars_1.m (at_ x0 x26)).bind fun t35 => bif t35 then (some (Sum.inl x26)) else (slices_IndexFunc_bytes__bytes_Cursor_Chars_1.l1.m K x0 k (w64 (x26 + 1)))) else none) else none) else (some (Sum.inr ())))) fun (j32 : Bool → Option (Int ⊕ (Unit))) => (if x26 < (x0.length : Int) then (j32 true) else (j32 false)))
def slices_IndexFunc_bytes__bytes_Cursor_Chars_1.m (K : Nat) (x0 : (List Int)) : Option Int :=
  ((slices_IndexFunc_bytes__bytes_Cursor_Chars_1.l1.m K x0 K 0).bind fun s27 => match s27 with | .inl q => (some q) | .inr _ => (some (-1)))

theorem slices_IndexFunc_bytes__bytes_Cursor_Chars_1.calls {G : Gh} {K : Nat} {x0 : (List Int)} {a21 : Option Addr} {p22 : Nat} {n23 : Nat} {h : Heap} {r : Int} (H : slices_IndexFunc_bytes__bytes_Cursor_Chars_1.m K x0 = some r)  (s25 : Sn (tInt .u8) G h a21 p22 n23 x0) :
    Ret Tryd.prog 41 #[.slice a21 n23 p22, .func (.func 42) #[] #[]] h (fun v h' => .int .i64 r = v ∧ h' = h) := by
 unfold slices_IndexFunc_bytes__bytes_Cursor_Chars_1.m at H
 obtain rfl := s25.len.symm
 refine fn_of (args := [.slice a21 x0.length p22, .func (.func 42) #[] #[]]) (rs := [.tmp 4]) (N := 19) Tryd.func41 rfl rfl rfl rfl ?_
 refine st 12 [] ?_
 obtain ⟨s27, m29, HR28⟩ := bind_some H
 refine k_loop 0 (fun k' ρ h1 => ∃ (x26 : Int), slices_IndexFunc_bytes__bytes_Cursor_Chars_1.l1.m K x0 k' x26 = some s27 ∧ Fits [(0, .slice a21 x0.length p22), (1, .func (.func 42) #[] #[]), (7, .int .i64 (x0.length : Int)), (8, .int .i64 x26)] ρ ∧ h = h1) (fun ρ h1 => Sum.inr () = s27 ∧ Fits [] ρ ∧ h = h1) K ⟨0, m29, ⟨by kernel_rfl, by kernel_rfl, by kernel_rfl, by kernel_rfl, trivial⟩, rfl⟩ ?_ rfl ?_
 ·clear m29 H
  rintro k' ρ h1 ⟨x26, H, hf, rfl⟩
  cases k' with
  | zero => cases H
  | succ k =>
   rw [slices_IndexFunc_bytes__bytes_Cursor_Chars_1.l1.m] at H
   refine k_fits _ hf ?_ rfl
   refine st 1 [] ?_
   obtain ⟨j32, e36, H⟩ := letJ_some H
   refine k_join (fun ρ h1 => ∃ (x31 : Bool), j32 x31 = some s27 ∧ Fits [(0, .slice a21 x0.length p22), (1, .func (.func 42) #[] #[]), (7, .int .i64 (x0.length : Int)), (8, .int .i64 x26), (9, .bool x31)] ρ ∧ h = h1) ?_ ?_
   ·refine st 1 [] (k_ite H (fun c30 H => ?_) (fun c30 H => ?_))
    ·refine st 1 [] ?_
     exact k_end ⟨true, H, ⟨by kernel_rfl, by kernel_rfl, by kernel_rfl, by kernel_rfl, by kernel_rfl, trivial⟩, rfl⟩
    ·refine st 1 [] ?_
     exact k_end ⟨false, H, ⟨by kernel_rfl, by kernel_rfl, by kernel_rfl, by kernel_rfl, by kernel_rfl, trivial⟩, rfl⟩
   ·clear H
    rintro ρ h1 ⟨x31, H, hf, rfl⟩
    refine k_fits _ hf ?_ rfl
    subst e36
    try dsimp only at H
    cases x31
    ·rw [cond_false] at H
     refine st 2 [false] ?_
     refine k_out rfl ?_
     obtain rfl := Option.some.inj H
     exact xE ⟨rfl, trivial, rfl⟩
    ·rw [cond_true] at H
     obtain ⟨c33, H⟩ := guard_pos H
     obtain ⟨c34, H⟩ := guard_pos H
     refine st 15 [true] (k_val (elemPtr a21 (x26.toNat * 1)) (pI (e := 5) (ik := .i64) s25 c33 c34) ?_)
     refine k_op (lC (s25.cell1 c33 c34) ?_)
     refine k_call H (fun _ m => bytes_Cursor_Chars_1.calls m) ?_
     rintro t35 _ _ H ⟨rfl, rfl⟩
     cases t35
     ·rw [cond_false] at H
      refine st 8 [false] ?_
      exact k_endL ⟨k, Nat.lt_succ_self _, (w64 (x26 + 1)), H, ⟨by kernel_rfl, by kernel_rfl, by kernel_rfl, by kernel_rfl, trivial⟩, rfl⟩
     ·rw [cond_true] at H
      refine st 7 [true] ?_
      refine k_retQ (krL ?_)
      obtain rfl := Option.some.inj H
      obtain rfl := Option.some.inj HR28
      exact ⟨_, by kernel_rfl, rfl, rfl⟩
 ·rintro ρ h1 ⟨rfl, hf, rfl⟩
  have H := HR28
  try dsimp only at H
  refine k_fits _ hf ?_ rfl
  refine st 4 [] ?_
  refine k_retQ ?_
  obtain rfl := Option.some.inj H
  exact ⟨_, by kernel_rfl, rfl, rfl⟩

/-! (*shutter/bytes.Cursor).Chars -/
def bytes_Cursor_Chars.m (K : Nat) (x0 : bytes_Cursor) : Option ((List Int) × bytes_Cursor) :=
  (if x0.err' = GoErr.nil then (if 0 ≤ x0.at' then (if x0.at' ≤ (x0.b'.length : Int) then ((slices_IndexFunc_bytes__bytes_Cursor_Chars_1.m K (sub x0.b' x0.at' (x0.b'.length : Int))).bind fun t32 => (if t32 < 0 then ((bytes_Cursor_Left.m x0).bind fun t34 => ((bytes_Cursor_Take.m (⟨t34.2.b', t34.2.at', x0.err'⟩ : bytes_Cursor) t34.1).bind fun t39 => (some (t39.1, t39.2)))) else ((bytes_Cursor_Take.m x0 t32).bind fun t50 => (some (t50.1, t50.2))))) else none) else none) else (some ([], x0)))

theorem bytes_Cursor_Chars.calls {B I : Gh} {h : Heap} {K : Nat} {x0 : bytes_Cursor} {b0 : Nat} {a21 : Option Addr} {p22 : Nat} {n23 : Nat} {v25 : Value} {r : ((List Int) × bytes_Cursor)} (H : bytes_Cursor_Chars.m K x0 = some r)  :
    Fc Tryd.prog 28 #[.pointer (some ⟨b0, 0, none⟩)] [rB b0 [.slice a21 n23 p22, .int .i64 x0.at', v25] 63, rR (tInt .u8) .i a21 p22 n23 x0.b', rE .i v25 x0.err'] B I h (fun v L => ∃ (a61 : Option Addr) (p62 : Nat) (n63 : Nat) (a65 : Option Addr) (p66 : Nat) (n67 : Nat) (v69 : Value), v = .slice a61 n63 p62 ∧ L = [rO (tInt .u8) .i a61 p62 n63 r.1, rB b0 [.slice a65 n67 p66, .int .i64 r.2.at', v69] 63, rR (tInt .u8) .i a65 p66 n67 r.2.b', rE .i v69 r.2.err']) := by
 refine fc_of fun E hs => ?_
 unfold bytes_Cursor_Chars.m at H
 obtain rfl := hs.nR d1
 refine fn_of (args := [.pointer (some ⟨b0, 0, none⟩)]) (rs := [.tmp 2]) (N := 26) Tryd.func28 rfl rfl rfl rfl ?_
 refine st 10 [] (k_op (lB (hs.bl d0) 2 rfl ?_))
 rcases (hs.er d2).cases with ⟨c27, rfl⟩ | ⟨c27, t28, u29, rfl⟩
 ·rw [if_pos c27] at H
  refine st 5 [false] ?_
  obtain ⟨hs0, bk0⟩ := hs.call tk0 (.c (qL d0) (.c (qK d1) .n))
  have hs := hs0
  refine k_regD hs0 11 ?_
  refine aRun [0, 1, 2] 8 hs.keep ?_
  refine aL 3 rfl hs.keep (ll hs0 d0 (n := 0) rfl) (nmL hs0 d0) ?_
  refine aRun [4, 5, 6] 4 hs.keep ?_
  refine aL 7 rfl hs.keep (ll hs0 d0 (n := 1) rfl) (nmL hs0 d0) ?_
  obtain ⟨c30, H⟩ := guard_pos H
  obtain ⟨c31, H⟩ := guard_pos H
  refine aP 8 (.slice (slA a21 p22 (Int.toNat x0.at') 1) ((sub x0.b' x0.at' (x0.b'.length : Int)).length) (p22 - Int.toNat x0.at')) rfl (pSl (e := 5) (k1 := .i64) (hs.sR d1) c30 c31 (Int.le_refl _)) hs.keep ?_
  refine aO1 9 rfl (o_call H (fun _ m => slices_IndexFunc_bytes__bytes_Cursor_Chars_1.calls m (Sn.part (hs.sR d1) (lo := x0.at') (hi := (x0.b'.length : Int)) c30 c31 (Int.le_refl _))) ?_)
  rintro t32 _ _ H ⟨rfl, rfl⟩
  refine ⟨hs.keep, ?_⟩
  refine aRun [10] 0 hs.keep ?_
  replace hs := hs.pk .n
  replace hs := bk0 hs ct0 rfl
  refine aEnd ?_
  refine st 4 [] (k_ite H (fun c33 H => ?_) (fun c33 H => ?_))
  ·obtain ⟨hk, bk⟩ := hs.call tk1 (.c (qK d0) .n)
   refine st 4 [true] (k_call H (fun _ m => bytes_Cursor_Left.calls m hk) ?_)
   rintro t34 _ h H ⟨I, _, ⟨a35, p36, n37, rfl, rfl⟩, hk⟩
   replace hs := bk hk ct2 rfl
   obtain rfl := hs.nR d1
   obtain ⟨hk, bk⟩ := hs.call tk1 (.c (qK d0) (.c (xK d2) .n))
   refine st 6 [] (k_call H (fun _ m => bytes_Cursor_Take.calls m hk) ?_)
   rintro t39 _ h H ⟨I, _, ⟨a40, p41, n42, a44, p45, n46, v48, rfl, rfl⟩, hk⟩
   replace hs := bk hk ct4 rfl
   obtain rfl := hs.nO d0
   obtain rfl := hs.nR d2
   refine st 2 [] ?_
   refine k_retQ ?_
   obtain rfl := Option.some.inj H
   exact ⟨_, by kernel_rfl, I, _, ⟨a40, p41, t39.1.length, a44, p45, t39.2.b'.length, (v48), rfl, rfl⟩, hs.pk (.c d0 (.c d0 (.c d0 (.c d0 .n))))⟩
  ·obtain ⟨hk, bk⟩ := hs.call tk1 (.c (qK d0) (.c (xK d1) .n))
   refine st 7 [false] (k_call H (fun _ m => bytes_Cursor_Take.calls m hk) ?_)
   rintro t50 _ h H ⟨I, _, ⟨a51, p52, n53, a55, p56, n57, v59, rfl, rfl⟩, hk⟩
   replace hs := bk hk ct4 rfl
   obtain rfl := hs.nO d0
   obtain rfl := hs.nR d2
   refine st 2 [] ?_
   refine k_retQ ?_
   obtain rfl := Option.some.inj H
   exact ⟨_, by kernel_rfl, I, _, ⟨a51, p52, t50.1.length, a55, p56, t50.2.b'.length, (v59), rfl, rfl⟩, hs.pk (.c d0 (.c d0 (.c d0 (.c d0 .n))))⟩
 ·rw [if_neg c27] at H
  refine st 7 [true] ?_
  refine k_retQ ?_
  obtain rfl := Option.some.inj H
  exact ⟨_, by kernel_rfl, I, _, ⟨none, 0, 0, a21, p22, x0.b'.length, ((.iface t28 u29)), rfl, rfl⟩, hs.pk (.f imON (.c d0 (.c d0 (.c d0 .n))))⟩

/-! (*shutter/bytes.Cursor).Byte -/
def bytes_Cursor_Byte.m (x0 : bytes_Cursor) : Option (Int × bytes_Cursor) :=
  ((bytes_Cursor_Take.m x0 1).bind fun t27 => (if (t27.1.length : Int) = 0 then (some (0, t27.2)) else (if 0 < (t27.1.length : Int) then (some ((at_ t27.1 0), t27.2)) else none)))

theorem bytes_Cursor_Byte.calls {B I : Gh} {h : Heap} {x0 : bytes_Cursor} {b0 : Nat} {a21 : Option Addr} {p22 : Nat} {n23 : Nat} {v25 : Value} {r : (Int × bytes_Cursor)} (H : bytes_Cursor_Byte.m x0 = some r)  :
    Fc Tryd.prog 29 #[.pointer (some ⟨b0, 0, none⟩)] [rB b0 [.slice a21 n23 p22, .int .i64 x0.at', v25] 63, rR (tInt .u8) .i a21 p22 n23 x0.b', rE .i v25 x0.err'] B I h (fun v L => ∃ (a40 : Option Addr) (p41 : Nat) (n42 : Nat) (v44 : Value), v = .int .u8 r.1 ∧ L = [rB b0 [.slice a40 n42 p41, .int .i64 r.2.at', v44] 63, rR (tInt .u8) .i a40 p41 n42 r.2.b', rE .i v44 r.2.err']) := by
 refine fc_of fun E hs => ?_
 unfold bytes_Cursor_Byte.m at H
 obtain rfl := hs.nR d1
 refine fn_of (args := [.pointer (some ⟨b0, 0, none⟩)]) (rs := [.tmp 2]) (N := 12) Tryd.func29 rfl rfl rfl rfl ?_
 obtain ⟨hk, bk⟩ := hs.call tk1 (.c (qK d0) (.c (xK d1) .n))
 refine st 7 [] (k_call H (fun _ m => bytes_Cursor_Take.calls m hk) ?_)
 rintro t27 _ h H ⟨I, _, ⟨a28, p29, n30, a32, p33, n34, v36, rfl, rfl⟩, hk⟩
 replace hs := bk hk ct4 rfl
 obtain rfl := hs.nO d0
 obtain rfl := hs.nR d2
 refine st 7 [] (k_ite H (fun c38 H => ?_) (fun c38 H => ?_))
 ·refine st 6 [true] ?_
  refine k_retQ ?_
  obtain rfl := Option.some.inj H
  exact ⟨_, by kernel_rfl, I, _, ⟨a32, p33, t27.2.b'.length, (v36), rfl, rfl⟩, hs.pk (.c d1 (.c d1 (.c d1 .n)))⟩
 ·obtain ⟨c39, H⟩ := guard_pos H
  refine st 6 [false] (k_val (elemPtr a28 ((0 : Int).toNat * 1)) (pI (e := 5) (ik := .i64) (hs.sO d0) (by decide) c39) ?_)
  refine k_op (lC ((hs.sO d0).cell1 (by decide) c39) ?_)
  refine st 2 [] ?_
  refine k_retQ ?_
  obtain rfl := Option.some.inj H
  exact ⟨_, by kernel_rfl, I, _, ⟨a32, p33, t27.2.b'.length, (v36), rfl, rfl⟩, hs.pk (.c d1 (.c d1 (.c d1 .n)))⟩

/-! (*shutter/bytes.Cursor).Err -/
def bytes_Cursor_Err.m (x0 : bytes_Cursor) : Option (GoErr × bytes_Cursor) :=
  (some (x0.err', x0))

theorem bytes_Cursor_Err.calls {B I : Gh} {h : Heap} {x0 : bytes_Cursor} {b0 : Nat} {v21 : Value} {v22 : Value} {r : (GoErr × bytes_Cursor)} (H : bytes_Cursor_Err.m x0 = some r)  :
    Fc Tryd.prog 30 #[.pointer (some ⟨b0, 0, none⟩)] [rB b0 [v21, .int .i64 x0.at', v22] 63, rE .i v22 x0.err'] B I h (fun v L => ∃ (v25 : Value) (v27 : Value), v = v25 ∧ L = [rE .i v25 r.1, rB b0 [v21, .int .i64 r.2.at', v27] 63, rE .i v27 r.2.err']) := by
 refine fc_of fun E hs => ?_
 unfold bytes_Cursor_Err.m at H
 refine fn_of (args := [.pointer (some ⟨b0, 0, none⟩)]) (rs := [.tmp 2]) (N := 7) Tryd.func30 rfl rfl rfl rfl ?_
 refine st 9 [] (k_op (lB (hs.bl d0) 2 rfl ?_))
 refine st 2 [] ?_
 replace hs := hs.dup d1 (fun _ x => x)
 refine k_retQ ?_
 obtain rfl := Option.some.inj H
 exact ⟨_, by kernel_rfl, I, _, ⟨(v22), (v22), rfl, rfl⟩, hs.pk (.c d2 (.c d1 (.c d0 .n)))⟩

/-! shutter/api.Where -/
def api_Where.m (x0 : GoErr) : Option Int := some (whereOf x0)
theorem api_Where.calls {B I : Gh} {h : Heap} {x0 : GoErr} {v1 : Value} {r : Int} (H : api_Where.m x0 = some r) : Fc Tryd.prog 31 #[v1] [rE .b v1 x0, rG] B I h (fun v L => v = .int .i64 r ∧ L = []) :=
  Where_fc (Option.some.inj H)

/-! shutter/shutterlaw06.awake -/
def shutterlaw06_awake.m (K : Nat)  : Option Bool :=
  ((bytes_New.m [64, 193, 17]).bind fun t23 => ((bytes_Cursor_Chars.m K t23).bind fun t31 => ((bytes_Cursor_Byte.m t31.2).bind fun t42 => ((bytes_Cursor_Byte.m t42.2).bind fun t49 => (if (t31.1.length : Int) = 2 then (if 1 < (t31.1.length : Int) then (if (at_ t31.1 1) = 193 then (if t42.1 = 17 then (if t49.1 = 0 then ((bytes_Cursor_Err.m t49.2).bind fun t61 => ((api_Code.m t61.1).bind fun t66 => (if t66 = 2 then ((bytes_Cursor_Err.m (⟨t49.2.b', t61.2.at', t61.2.err'⟩ : bytes_Cursor)).bind fun t68 => ((api_Where.m t68.1).bind fun t73 => (if t73 = 3 then ((bytes_Cursor_At.m (⟨t49.2.b', t68.2.at', t68.2.err'⟩ : bytes_Cursor)).bind fun t75 => (some (t75.1 == 3))) else (some false)))) else (some false)))) else (some false)) else (some false)) else (some false)) else none) else (some false))))))

theorem shutterlaw06_awake.calls {B I : Gh} {h : Heap} {K : Nat} {r : Bool} (H : shutterlaw06_awake.m K = some r)  :
    Fc Tryd.prog 18 #[] [rG] B I h (fun v L => v = .bool r ∧ L = []) := by
 refine fc_of fun E hs => ?_
 unfold shutterlaw06_awake.m at H
 refine fn_of (args := []) (rs := [.tmp 0]) (N := 49) Tryd.func18 rfl rfl rfl rfl ?_
 refine st 6 [] (k_op (nS (e := 5) hs .i (tInt .u8) ([64, 193, 17] : List Int) [.int .u8 64, .int .u8 193, .int .u8 17] 1 (.int .u8 0) (Reps.int (I := (Cl.G .i E.B I)) (k := .u8) (l := [64, 193, 17])) ?_))
 intro b21 h hs
 obtain ⟨hk, bk⟩ := hs.call tk0 (.c (qO d0) .n)
 refine k_call H (fun _ m => bytes_New.calls m hk) ?_
 rintro t23 _ h H ⟨I, _, ⟨b24, a25, p26, n27, v29, rfl, rfl⟩, hk⟩
 replace hs := bk hk ct3 rfl
 obtain rfl := hs.nR d1
 obtain ⟨hk, bk⟩ := hs.call tk1 (.c (qK d0) (.c (xK d1) .n))
 refine st 13 [false] (k_call H (fun _ m => bytes_Cursor_Chars.calls m hk) ?_)
 rintro t31 _ h H ⟨I, _, ⟨a32, p33, n34, a36, p37, n38, v40, rfl, rfl⟩, hk⟩
 replace hs := bk hk ct4 rfl
 obtain rfl := hs.nO d0
 obtain rfl := hs.nR d2
 obtain ⟨hk, bk⟩ := (hs.f d1).call tk1 (.c (qK d1) (.c (xK d2) .n))
 refine st 5 [] (k_call H (fun _ m => bytes_Cursor_Byte.calls m hk) ?_)
 rintro t42 _ h H ⟨I, _, ⟨a43, p44, n45, v47, rfl, rfl⟩, hk⟩
 replace hs := bk hk ct3 rfl
 obtain rfl := hs.nR d1
 obtain ⟨hk, bk⟩ := hs.call tk1 (.c (qK d0) (.c (xK d1) .n))
 refine st 5 [] (k_call H (fun _ m => bytes_Cursor_Byte.calls m hk) ?_)
 rintro t49 _ h H ⟨I, _, ⟨a50, p51, n52, v54, rfl, rfl⟩, hk⟩
 replace hs := bk hk ct3 rfl
 obtain rfl := hs.nR d1
 refine st 6 [] (k_ite H (fun c56 H => ?_) (fun c56 H => ?_))
 ·obtain ⟨c57, H⟩ := guard_pos H
  refine st 2 [] (k_val (elemPtr a32 ((1 : Int).toNat * 1)) (pI (e := 5) (ik := .i64) (hs.sO d5) (by decide) c57) ?_)
  refine k_op (lC ((hs.sO d5).cell1 (by decide) c57) ?_)
  refine k_ite H (fun c58 H => ?_) (fun c58 H => ?_)
  ·refine st 3 [] (k_ite H (fun c59 H => ?_) (fun c59 H => ?_))
   ·refine st 3 [] (k_ite H (fun c60 H => ?_) (fun c60 H => ?_))
    ·obtain ⟨hk, bk⟩ := hs.call tk1 (.c (xK d1) .n)
     refine st 3 [] (k_call H (fun _ m => bytes_Cursor_Err.calls m hk) ?_)
     rintro t61 _ h H ⟨I, _, ⟨v62, v64, rfl, rfl⟩, hk⟩
     replace hs := bk hk ct3 rfl
     obtain ⟨hk, bk⟩ := hs.call tk0 (.c (xI d0) (.c (gK d13) .n))
     refine k_call H (fun _ m => api_Code.calls m hk) ?_
     rintro t66 _ h H ⟨I, _, ⟨rfl, rfl⟩, hk⟩
     replace hs := bk hk ct0 rfl
     refine k_ite H (fun c67 H => ?_) (fun c67 H => ?_)
     ·obtain ⟨hk, bk⟩ := (hs.f d1).call tk1 (.c (xK d1) .n)
      refine st 3 [] (k_call H (fun _ m => bytes_Cursor_Err.calls m hk) ?_)
      rintro t68 _ h H ⟨I, _, ⟨v69, v71, rfl, rfl⟩, hk⟩
      replace hs := bk hk ct3 rfl
      obtain ⟨hk, bk⟩ := hs.call tk0 (.c (xI d0) (.c (gK d15) .n))
      refine k_call H (fun _ m => api_Where.calls m hk) ?_
      rintro t73 _ h H ⟨I, _, ⟨rfl, rfl⟩, hk⟩
      replace hs := bk hk ct0 rfl
      refine k_ite H (fun c74 H => ?_) (fun c74 H => ?_)
      ·obtain ⟨hk, bk⟩ := (hs.f d1).call tk1 .n
       refine st 3 [] (k_call H (fun _ m => bytes_Cursor_At.calls m hk) ?_)
       rintro t75 _ h H ⟨I, _, ⟨rfl, rfl⟩, hk⟩
       replace hs := bk hk ct1 rfl
       refine st 4 [] ?_
       refine k_retQ ?_
       obtain rfl := Option.some.inj H
       exact ⟨_, by kernel_rfl, I, _, ⟨rfl, rfl⟩, hs.pk .n⟩
      ·refine st 8 [] ?_
       refine k_retQ ?_
       obtain rfl := Option.some.inj H
       exact ⟨_, by kernel_rfl, I, _, ⟨rfl, rfl⟩, hs.pk .n⟩
     ·refine st 14 [] ?_
      refine k_retQ ?_
      obtain rfl := Option.some.inj H
      exact ⟨_, by kernel_rfl, I, _, ⟨rfl, rfl⟩, hs.pk .n⟩
    ·refine st 20 [] ?_
     refine k_retQ ?_
     obtain rfl := Option.some.inj H
     exact ⟨_, by kernel_rfl, I, _, ⟨rfl, rfl⟩, hs.pk .n⟩
   ·refine st 24 [] ?_
    refine k_retQ ?_
    obtain rfl := Option.some.inj H
    exact ⟨_, by kernel_rfl, I, _, ⟨rfl, rfl⟩, hs.pk .n⟩
  ·refine st 28 [] ?_
   refine k_retQ ?_
   obtain rfl := Option.some.inj H
   exact ⟨_, by kernel_rfl, I, _, ⟨rfl, rfl⟩, hs.pk .n⟩
 ·refine st 33 [] ?_
  refine k_retQ ?_
  obtain rfl := Option.some.inj H
  exact ⟨_, by kernel_rfl, I, _, ⟨rfl, rfl⟩, hs.pk .n⟩

/-! shutter/shutterlaw06.BytesKeeps -/
def shutterlaw06_BytesKeeps.l1.m (K : Nat) : Nat → (List Int) → Int → Option ((List Int))
  | 0, _, _ => none
  | k + 1, x51, x56 => (if x56 < (x51.length : Int) then (if 0 ≤ x56 then (shutterlaw06_BytesKeeps.l1.m K k (x51.set x56.toNat (bXor .u8 (at_ x51 x56) 255)) (w64 (x56 + 1))) else none) else (some (x51)))
def shutterlaw06_BytesKeeps.l2.m (K : Nat) : Nat → (List Int) → Int → Option ((List Int))
  | 0, _, _ => none
  | k + 1, x81, x86 => (if x86 < (x81.length : Int) then (if 0 ≤ x86 then (shutterlaw06_BytesKeeps.l2.m K k (x81.set x86.toNat (bXor .u8 (at_ x81 x86) 255)) (w64 (x86 + 1))) else none) else (some (x81)))
def shutterlaw06_BytesKeeps.m (K : Nat) (x0 : (List Int)) : Option Bool :=
  ((shutterlaw06_awake.m K).bind fun t25 => bif t25 then (if (x0.length : Int) > 300 then ((shutterlaw06_awake.m K).bind fun t27 => (some t27)) else ((app [] x0).bind fun l30 => ((bytes_New.m l30).bind fun t35 => ((bytes_New.m x0).bind fun t43 => ((shutterlaw06_BytesKeeps.l1.m K K l30 0).bind fun x58 => ((bytes_Cursor_Take.m t43 (x0.length : Int)).bind fun t70 => ((shutterlaw06_BytesKeeps.l2.m K K t70.1 0).bind fun x88 => ((bytes_Cursor_Take.m t35 (x0.length : Int)).bind fun t100 => ((shutterref01_Same.m K t100.1 x0).bind fun t111 => bif t111 then ((shutterref01_Same.m K x88 x58).bind fun t112 => (some t112)) else (some false)))))))))) else ((shutterlaw06_awake.m K).bind fun t113 => (some t113)))

theorem shutterlaw06_BytesKeeps.calls {B I : Gh} {h : Heap} {K : Nat} {x0 : (List Int)} {a21 : Option Addr} {p22 : Nat} {n23 : Nat} {r : Bool} (H : shutterlaw06_BytesKeeps.m K x0 = some r)  :
    Fc Tryd.prog 8 #[.slice a21 n23 p22] [rR (tInt .u8) .b a21 p22 n23 x0, rG] B I h (fun v L => v = .bool r ∧ L = []) := by
 refine fc_of fun E hs => ?_
 unfold shutterlaw06_BytesKeeps.m at H
 obtain rfl := hs.nR d0
 refine fn_of (args := [.slice a21 x0.length p22]) (rs := [.tmp 2]) (N := 73) Tryd.func8 rfl rfl rfl rfl ?_
 obtain ⟨hk, bk⟩ := hs.call tk0 (.c (gK d1) .n)
 refine st 7 [] (k_call H (fun _ m => shutterlaw06_awake.calls m hk) ?_)
 rintro t25 _ h H ⟨I, _, ⟨rfl, rfl⟩, hk⟩
 replace hs := bk hk ct0 rfl
 cases t25
 ·rw [cond_false] at H
  obtain ⟨hk, bk⟩ := hs.call tk0 (.c (gK d1) .n)
  refine st 10 [true] (k_call H (fun _ m => shutterlaw06_awake.calls m hk) ?_)
  rintro t113 _ h H ⟨I, _, ⟨rfl, rfl⟩, hk⟩
  replace hs := bk hk ct0 rfl
  refine st 2 [] ?_
  refine k_retQ ?_
  obtain rfl := Option.some.inj H
  exact ⟨_, by kernel_rfl, I, _, ⟨rfl, rfl⟩, hs.pk .n⟩
 ·rw [cond_true] at H
  refine st 4 [] (k_ite H (fun c26 H => ?_) (fun c26 H => ?_))
  ·obtain ⟨hk, bk⟩ := hs.call tk0 (.c (gK d1) .n)
   refine st 5 [true] (k_call H (fun _ m => shutterlaw06_awake.calls m hk) ?_)
   rintro t27 _ h H ⟨I, _, ⟨rfl, rfl⟩, hk⟩
   replace hs := bk hk ct0 rfl
   refine st 2 [] ?_
   refine k_retQ ?_
   obtain rfl := Option.some.inj H
   exact ⟨_, by kernel_rfl, I, _, ⟨rfl, rfl⟩, hs.pk .n⟩
  ·refine st 6 [false] (k_op (nS (e := 5) hs .i (tInt .u8) ([] : List Int) [] 1 (.int .u8 0) (Reps.int (I := (Cl.G .i E.B I)) (k := .u8) (l := [])) ?_))
   intro b28 h hs
   obtain ⟨l30, m31, H⟩ := bind_some H
   refine st 1 [] (k_op (aO (e := 5) (bytes := 1) hs ((hs.sR d1).flat flat_int) m31 ?_))
   intro a32 p33 h hs
   obtain ⟨hk, bk⟩ := hs.call tk0 (.c (qO d0) .n)
   refine st 5 [] (k_call H (fun _ m => bytes_New.calls m hk) ?_)
   rintro t35 _ h H ⟨I, _, ⟨b36, a37, p38, n39, v41, rfl, rfl⟩, hk⟩
   replace hs := bk hk ct3 rfl
   obtain rfl := hs.nR d1
   obtain ⟨hk, bk⟩ := hs.call tk0 (.c (qB d4) .n)
   refine st 5 [] (k_call H (fun _ m => bytes_New.calls m hk) ?_)
   rintro t43 _ h H ⟨I, _, ⟨b44, a45, p46, n47, v49, rfl, rfl⟩, hk⟩
   replace hs := bk hk ct3 rfl
   obtain rfl := hs.nR d1
   refine st 20 [false] ?_
   obtain ⟨s57, m64, HR63⟩ := bind_some H
   refine k_loop 0 (fun k' ρ h => ∃ (x51 : List Int) (x56 : Int) (a52 : Option Addr) (p53 : Nat) (n54 : Nat) (I : Gh), shutterlaw06_BytesKeeps.l1.m K k' x51 x56 = some s57 ∧ Fits [(0, .slice a21 x0.length p22), (3, .slice a52 n54 p53), (4, .pointer (some ⟨b36, 0, none⟩)), (5, .pointer (some ⟨b44, 0, none⟩)), (6, .int .i64 x56)] ρ ∧ St E [rR (tInt .u8) .b a21 p22 x0.length x0, rO (tInt .u8) .i a52 p53 n54 x51, rR (tInt .u8) .i a37 p38 t35.b'.length t35.b', rE .i v41 t35.err', rB b36 [.slice a37 t35.b'.length p38, .int .i64 t35.at', v41] 63, rR (tInt .u8) .i a45 p46 t43.b'.length t43.b', rE .i v49 t43.err', rB b44 [.slice a45 t43.b'.length p46, .int .i64 t43.at', v49] 63, rG] I h) (fun ρ h => ∃ (x58 : List Int) (a59 : Option Addr) (p60 : Nat) (n61 : Nat) (I : Gh), x58 = s57 ∧ Fits [(0, .slice a21 x0.length p22), (3, .slice a59 n61 p60), (4, .pointer (some ⟨b36, 0, none⟩)), (5, .pointer (some ⟨b44, 0, none⟩))] ρ ∧ St E [rR (tInt .u8) .b a21 p22 x0.length x0, rO (tInt .u8) .i a59 p60 n61 x58, rR (tInt .u8) .i a37 p38 t35.b'.length t35.b', rE .i v41 t35.err', rB b36 [.slice a37 t35.b'.length p38, .int .i64 t35.at', v41] 63, rR (tInt .u8) .i a45 p46 t43.b'.length t43.b', rE .i v49 t43.err', rB b44 [.slice a45 t43.b'.length p46, .int .i64 t43.at', v49] 63, rG] I h) K ⟨l30, 0, a32, p33, l30.length, I, m64, ⟨by kernel_rfl, by kernel_rfl, by kernel_rfl, by kernel_rfl, by kernel_rfl, trivial⟩, hs.pk (.c d7 (.c d6 (.c d4 (.c d4 (.c d3 (.c d1 (.c d1 (.c d0 (.c d0 .n)))))))))⟩ ?_ rfl ?_
   ·clear HR63 m64 H
    rintro k' ρ h ⟨x51, x56, a52, p53, n54, I, H, hf, hs⟩
    cases k' with
    | zero => cases H
    | succ k =>
     rw [shutterlaw06_BytesKeeps.l1.m] at H
     refine k_fits _ hf ?_ rfl
     obtain rfl := hs.nO d1
     refine st 6 [] (k_ite H (fun c65 H => ?_) (fun c65 H => ?_))
     ·obtain ⟨c66, H⟩ := guard_pos H
      refine st 10 [true] (k_val (elemPtr a52 (x56.toNat * 1)) (pI (e := 5) (ik := .i64) (hs.sO d1) c66 c65) ?_)
      refine k_op (lC ((hs.sO d1).cell1 c66 c65) ?_)
      refine st 1 [] (k_val (elemPtr a52 (x56.toNat * 1)) (pI (e := 5) (ik := .i64) (hs.sO d1) c66 c65) ?_)
      obtain ⟨y68, g67, q69⟩ := (hs.sO d1).toSl.seg c66 c65
      obtain rfl := rep_int q69
      replace hs := (hs.f d1)
      refine k_op (sE hs 0 [.int .u8 (bXor .u8 (at_ x51 x56) 255)] (bXor .u8 (at_ x51 x56) 255) c66 c65 g67 (ones_of rfl) rfl ?_)
      intro h hs
      refine st 7 [] ?_
      exact k_endL ⟨k, Nat.lt_succ_self _, (x51.set x56.toNat (bXor .u8 (at_ x51 x56) 255)), (w64 (x56 + 1)), a52, p53, x51.length, I, H, ⟨by kernel_rfl, by kernel_rfl, by kernel_rfl, by kernel_rfl, by kernel_rfl, trivial⟩, hs.pk (.c d1 (.c d0 (.c d0 (.c d0 (.c d0 (.c d0 (.c d0 (.c d0 (.c d0 .n)))))))))⟩
     ·refine st 2 [false] ?_
      refine k_out rfl ?_
      obtain rfl := Option.some.inj H
      exact xE ⟨x51, a52, p53, x51.length, I, rfl, ⟨by kernel_rfl, by kernel_rfl, by kernel_rfl, by kernel_rfl, trivial⟩, hs.pk (.c d0 (.c d0 (.c d0 (.c d0 (.c d0 (.c d0 (.c d0 (.c d0 (.c d0 .n)))))))))⟩
   ·rintro ρ h ⟨x58, a59, p60, n61, I, rfl, hf, hs⟩
    have H := HR63
    try dsimp only at H
    refine k_fits _ hf ?_ rfl
    obtain rfl := hs.nO d1
    obtain ⟨hk, bk⟩ := (hs.f d7).call tk1 (.c (qK d5) (.c (xK d6) .n))
    refine st 5 [] (k_call H (fun _ m => bytes_Cursor_Take.calls m hk) ?_)
    rintro t70 _ h H ⟨I, _, ⟨a71, p72, n73, a75, p76, n77, v79, rfl, rfl⟩, hk⟩
    replace hs := bk hk ct4 rfl
    obtain rfl := hs.nO d0
    obtain rfl := hs.nR d2
    refine st 8 [] ?_
    obtain ⟨s87, m94, HR93⟩ := bind_some H
    refine k_loop 2 (fun k' ρ h => ∃ (x81 : List Int) (x86 : Int) (a82 : Option Addr) (p83 : Nat) (n84 : Nat) (I : Gh), shutterlaw06_BytesKeeps.l2.m K k' x81 x86 = some s87 ∧ Fits [(0, .slice a21 x0.length p22), (3, .slice a59 x58.length p60), (4, .pointer (some ⟨b36, 0, none⟩)), (7, .slice a82 n84 p83), (8, .int .i64 x86)] ρ ∧ St E [rR (tInt .u8) .b a21 p22 x0.length x0, rO (tInt .u8) .i a59 p60 x58.length x58, rO (tInt .u8) .i a82 p83 n84 x81, rR (tInt .u8) .i a37 p38 t35.b'.length t35.b', rE .i v41 t35.err', rB b36 [.slice a37 t35.b'.length p38, .int .i64 t35.at', v41] 63, rG] I h) (fun ρ h => ∃ (x88 : List Int) (a89 : Option Addr) (p90 : Nat) (n91 : Nat) (I : Gh), x88 = s87 ∧ Fits [(0, .slice a21 x0.length p22), (3, .slice a59 x58.length p60), (4, .pointer (some ⟨b36, 0, none⟩)), (7, .slice a89 n91 p90)] ρ ∧ St E [rR (tInt .u8) .b a21 p22 x0.length x0, rO (tInt .u8) .i a59 p60 x58.length x58, rO (tInt .u8) .i a89 p90 n91 x88, rR (tInt .u8) .i a37 p38 t35.b'.length t35.b', rE .i v41 t35.err', rB b36 [.slice a37 t35.b'.length p38, .int .i64 t35.at', v41] 63, rG] I h) K ⟨t70.1, 0, a71, p72, t70.1.length, I, m94, ⟨by kernel_rfl, by kernel_rfl, by kernel_rfl, by kernel_rfl, by kernel_rfl, trivial⟩, hs.pk (.c d4 (.c d4 (.c d0 (.c d3 (.c d3 (.c d3 (.c d5 .n)))))))⟩ ?_ rfl ?_
    ·clear HR93 m94 H
     rintro k' ρ h ⟨x81, x86, a82, p83, n84, I, H, hf, hs⟩
     cases k' with
     | zero => cases H
     | succ k =>
      rw [shutterlaw06_BytesKeeps.l2.m] at H
      refine k_fits _ hf ?_ rfl
      obtain rfl := hs.nO d2
      refine st 6 [] (k_ite H (fun c95 H => ?_) (fun c95 H => ?_))
      ·obtain ⟨c96, H⟩ := guard_pos H
       refine st 10 [true] (k_val (elemPtr a82 (x86.toNat * 1)) (pI (e := 5) (ik := .i64) (hs.sO d2) c96 c95) ?_)
       refine k_op (lC ((hs.sO d2).cell1 c96 c95) ?_)
       refine st 1 [] (k_val (elemPtr a82 (x86.toNat * 1)) (pI (e := 5) (ik := .i64) (hs.sO d2) c96 c95) ?_)
       obtain ⟨y98, g97, q99⟩ := (hs.sO d2).toSl.seg c96 c95
       obtain rfl := rep_int q99
       replace hs := (hs.f d2)
       refine k_op (sE hs 0 [.int .u8 (bXor .u8 (at_ x81 x86) 255)] (bXor .u8 (at_ x81 x86) 255) c96 c95 g97 (ones_of rfl) rfl ?_)
       intro h hs
       refine st 7 [] ?_
       exact k_endL ⟨k, Nat.lt_succ_self _, (x81.set x86.toNat (bXor .u8 (at_ x81 x86) 255)), (w64 (x86 + 1)), a82, p83, x81.length, I, H, ⟨by kernel_rfl, by kernel_rfl, by kernel_rfl, by kernel_rfl, by kernel_rfl, trivial⟩, hs.pk (.c d1 (.c d1 (.c d0 (.c d0 (.c d0 (.c d0 (.c d0 .n)))))))⟩
      ·refine st 2 [false] ?_
       refine k_out rfl ?_
       obtain rfl := Option.some.inj H
       exact xE ⟨x81, a82, p83, x81.length, I, rfl, ⟨by kernel_rfl, by kernel_rfl, by kernel_rfl, by kernel_rfl, trivial⟩, hs.pk (.c d0 (.c d0 (.c d0 (.c d0 (.c d0 (.c d0 (.c d0 .n)))))))⟩
    ·rintro ρ h ⟨x88, a89, p90, n91, I, rfl, hf, hs⟩
     have H := HR93
     try dsimp only at H
     refine k_fits _ hf ?_ rfl
     obtain rfl := hs.nO d2
     obtain ⟨hk, bk⟩ := (hs.f d5).call tk1 (.c (qK d3) (.c (xK d4) .n))
     refine st 5 [] (k_call H (fun _ m => bytes_Cursor_Take.calls m hk) ?_)
     rintro t100 _ h H ⟨I, _, ⟨a101, p102, n103, a105, p106, n107, v109, rfl, rfl⟩, hk⟩
     replace hs := bk hk ct4 rfl
     obtain rfl := hs.nO d0
     obtain rfl := hs.nR d2
     refine st 1 [] (k_call H (fun _ m => shutterref01_Same.calls m ((hs.sO d0)).up1 (hs.sR d4)) ?_)
     rintro t111 _ _ H ⟨rfl, rfl⟩
     cases t111
     ·rw [cond_false] at H
      refine st 7 [] ?_
      refine k_retQ ?_
      obtain rfl := Option.some.inj H
      exact ⟨_, by kernel_rfl, I, _, ⟨rfl, rfl⟩, hs.pk .n⟩
     ·rw [cond_true] at H
      refine st 3 [] (k_call H (fun _ m => shutterref01_Same.calls m (hs.sO d6) (hs.sO d5)) ?_)
      rintro t112 _ _ H ⟨rfl, rfl⟩
      refine st 3 [] ?_
      refine k_retQ ?_
      obtain rfl := Option.some.inj H
      exact ⟨_, by kernel_rfl, I, _, ⟨rfl, rfl⟩, hs.pk .n⟩

end Go.Proofs.YtooaghempnlclaaDoor.Sx
