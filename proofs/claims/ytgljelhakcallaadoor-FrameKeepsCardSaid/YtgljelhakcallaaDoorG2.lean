/- Printed walks, part 2: each function's model, and that the code comes to it. -/
import Derived.Test.YtgljelhakcallaaDoorProg
import Derived.Test.YtgljelhakcallaaDoorV4
import Derived.Test.YtgljelhakcallaaDoorV5
import Derived.Test.YtgljelhakcallaaDoorG1
namespace Go.Proofs.YtgljelhakcallaaDoor.Sx
open Go
set_option maxRecDepth 100000

/-! shutter/frame.Open -/
def frame_Open.l1.m (K : Nat) (x2 : (List Int)) : Nat → Int → Int → Option (Int)
  | 0, _, _ => none
  | k + 1, x49, x50 => (if x50 < ((sub (sub x2 0 (w64 ((x2.length : Int) - 16))) 2 10).length : Int) then (if 0 ≤ x50 then (frame_Open.l1.m K x2 k (bOr .u64 (shl .u64 x49 8) (IntKind.u64.wrap ((at_ (sub (sub x2 0 (w64 ((x2.length : Int) - 16))) 2 10) x50)))) (w64 (x50 + 1))) else none) else (some (x49)))
def frame_Open.m (K : Nat) (x0 : (List Int)) (x1 : Int) (x2 : (List Int)) : Option (api_Frame × GoErr) :=
  (letJ (α := Bool → Option (api_Frame × GoErr)) (fun (x31 : Bool) => (bif x31 then (some ((⟨0, 0, []⟩ : api_Frame), (GoErr.no 2))) else (if (x2.length : Int) > 512 then (some ((⟨0, 0, []⟩ : api_Frame), (GoErr.no 6))) else (if 0 ≤ (w64 ((x2.length : Int) - 16)) then (if (w64 ((x2.length : Int) - 16)) ≤ (x2.length : Int) then ((mac_Tag.m K x0 [(sub x2 0 (w64 ((x2.length : Int) - 16)))]).bind fun t39 => ((mac_Equal.m K t39 (sub x2 (w64 ((x2.length : Int) - 16)) (x2.length : Int))).bind fun t43 => bif t43 then (if 0 < ((sub x2 0 (w64 ((x2.length : Int) - 16))).length : Int) then (if (at_ (sub x2 0 (w64 ((x2.length : Int) - 16))) 0) = 1 then (if 1 < ((sub x2 0 (w64 ((x2.length : Int) - 16))).length : Int) then (if (w64 ((at_ (sub x2 0 (w64 ((x2.length : Int) - 16))) 1))) = x1 then (if 10 ≤ ((sub x2 0 (w64 ((x2.length : Int) - 16))).length : Int) then ((frame_Open.l1.m K x2 K 0 0).bind fun x52 => (if x52 < 1 then (some ((⟨0, 0, []⟩ : api_Frame), (GoErr.no 1))) else (if x52 > 4611686018427387904 then (some ((⟨0, 0, []⟩ : api_Frame), (GoErr.no 1))) else ((frame_sided.m x1).bind fun t59 => bif t59 then ((slices_Clone_bytes.m (sub (sub x2 0 (w64 ((x2.length : Int) - 16))) 10 ((sub x2 0 (w64 ((x2.length : Int) - 16))).length : Int))).bind fun t60 => (some ((⟨x1, (w64 (x52)), t60⟩ : api_Frame), GoErr.nil))) else (some ((⟨0, 0, []⟩ : api_Frame), (GoErr.no 1))))))) else none) else (some ((⟨0, 0, []⟩ : api_Frame), (GoErr.no 13)))) else none) else (some ((⟨0, 0, []⟩ : api_Frame), (GoErr.no 13)))) else none) else (some ((⟨0, 0, []⟩ : api_Frame), (GoErr.no 11))))) else none) else none)))) fun (j32 : Bool → Option (api_Frame × GoErr)) => (if (x2.length : Int) < 26 then (j32 true) else (j32 false)))

theorem frame_Open.calls {B I : Gh} {h : Heap} {K : Nat} {x0 : (List Int)} {x1 : Int} {x2 : (List Int)} {a21 : Option Addr} {p22 : Nat} {n23 : Nat} {a25 : Option Addr} {p26 : Nat} {n27 : Nat} {r : (api_Frame × GoErr)} (H : frame_Open.m K x0 x1 x2 = some r)  :
    Fc Tryd.prog 18 #[.slice a21 n23 p22, .int .i64 x1, .slice a25 n27 p26] [rR (tInt .u8) .b a21 p22 n23 x0, rR (tInt .u8) .b a25 p26 n27 x2] B I h (fun v L => ∃ (a66 : Option Addr) (p67 : Nat) (n68 : Nat) (v70 : Value), v = .tuple #[.agg #[.int .i64 r.1.Dir, .int .i64 r.1.Seq, .slice a66 n68 p67], v70] ∧ L = [rO (tInt .u8) .i a66 p67 n68 r.1.Body, rE .i v70 r.2]) := by
 refine fc_of fun E hs => ?_
 unfold frame_Open.m at H
 obtain rfl := hs.nR d0
 obtain rfl := hs.nR d1
 refine fn_of2 (args := [.slice a21 x0.length p22, .int .i64 x1, .slice a25 x2.length p26]) (rs := [.cell 6 30, .tmp 7]) (N := 93) Tryd.func18 rfl rfl rfl rfl ?_
 refine st 2 [] (k_op (nA hs [.int .i64 0, .int .i64 0, .slice none 0 0] (.agg #[.int .i64 0, .int .i64 0, .slice none 0 0]) ?_))
 intro b29 h hs
 refine st 5 [] ?_
 obtain ⟨j32, e65, H⟩ := letJ_some H
 refine k_join (fun ρ h => ∃ (x31 : Bool) (I : Gh), j32 x31 = some r ∧ Fits [(0, .slice a21 x0.length p22), (1, .int .i64 x1), (2, .slice a25 x2.length p26), (6, .pointer (some ⟨b29, 0, none⟩)), (14, .bool x31)] ρ ∧ St E [rR (tInt .u8) .b a21 p22 x0.length x0, rR (tInt .u8) .b a25 p26 x2.length x2, rB b29 [.int .i64 0, .int .i64 0, .slice none 0 0] 30] I h) ?_ ?_
 ·refine st 3 [] (k_ite H (fun c30 H => ?_) (fun c30 H => ?_))
  ·refine st 2 [] ?_
   exact k_end ⟨true, I, H, ⟨by kernel_rfl, by kernel_rfl, by kernel_rfl, by kernel_rfl, by kernel_rfl, trivial⟩, hs.pk (.c d1 (.c d1 (.c d0 .n)))⟩
  ·refine st 2 [] ?_
   exact k_end ⟨false, I, H, ⟨by kernel_rfl, by kernel_rfl, by kernel_rfl, by kernel_rfl, by kernel_rfl, trivial⟩, hs.pk (.c d1 (.c d1 (.c d0 .n)))⟩
 ·clear H
  rintro ρ h ⟨x31, I, H, hf, hs⟩
  refine k_fits _ hf ?_ rfl
  subst e65
  try dsimp only at H
  cases x31
  ·rw [cond_false] at H
   refine st 5 [false] (k_ite H (fun c33 H => ?_) (fun c33 H => ?_))
   ·refine st 7 [true] (k_op (sN (hs.f d2) 0 [.int .i64 0, .int .i64 0, .slice none 0 0] [.int .i64 0, .int .i64 0, .slice none 0 0] (ones_of rfl) ?_))
    intro h hs
    refine st 2 [] ?_
    refine k_retQ ?_
    obtain rfl := Option.some.inj H
    exact ⟨[.agg #[.int .i64 0, .int .i64 0, .slice none 0 0], .iface 56 (.int .i64 6)], (.cons (.agg (by kernel_rfl) (by kernel_rfl) (by kernel_rfl) ((hs.bl d0).seg_ 0 3 (Nat.le_of_ble_eq_true rfl))) (.cons (.tmp (by kernel_rfl)) .nil)), I, _, ⟨none, 0, 0, (.iface 56 (.int .i64 6)), rfl, rfl⟩, hs.pk (.f imON (.f imEC .n))⟩
   ·refine st 6 [false] ?_
    obtain ⟨hs0, bk0⟩ := hs.call tk0 (.c (qB d1) .n)
    have hs := hs0
    refine k_regD hs0 12 ?_
    obtain ⟨c34, H⟩ := guard_pos H
    obtain ⟨c35, H⟩ := guard_pos H
    refine aRun [0, 1, 2, 3] 8 hs.keep ?_
    refine aP 4 (.slice (slA a25 p26 (Int.toNat (0 : Int)) 1) ((sub x2 0 (w64 ((x2.length : Int) - 16))).length) (p26 - Int.toNat (0 : Int))) rfl (pSh (e := 5) (k2 := .i64) (hs.sR d0) (Int.le_refl 0) c34 c35) hs.keep ?_
    refine aRun [5, 6, 7, 8] 3 hs.keep ?_
    refine aP 9 (.slice (slA a25 p26 (Int.toNat (w64 ((x2.length : Int) - 16))) 1) ((sub x2 (w64 ((x2.length : Int) - 16)) (x2.length : Int)).length) (p26 - Int.toNat (w64 ((x2.length : Int) - 16)))) rfl (pSl (e := 5) (k1 := .i64) (hs.sR d0) c34 c35 (Int.le_refl _)) hs.keep ?_
    refine aRun [10, 11] 0 hs.keep ?_
    replace hs := hs.pk .n
    replace hs := bk0 hs ct0 rfl
    refine aEnd ?_
    replace hs := hs.part d1 (lo := 0) (hi := (w64 ((x2.length : Int) - 16))) (Int.le_refl 0) c34 c35
    have hz := hs
    obtain ⟨I, hs⟩ := hs.all (.r (.r (.r (.d .n))))
    refine st 5 [] (k_op (nS (e := 22) hs .i (tSl (tInt .u8)) ([(sub x2 0 (w64 ((x2.length : Int) - 16)))] : List (List Int)) [.slice (slA a25 p26 (Int.toNat (0 : Int)) 1) ((sub x2 0 (w64 ((x2.length : Int) - 16))).length) (p26 - Int.toNat (0 : Int))] 1 (.slice none 0 0) (Reps.cons (T := (tSl (tInt .u8))) (c := [.slice (slA a25 p26 (Int.toNat (0 : Int)) 1) ((sub x2 0 (w64 ((x2.length : Int) - 16))).length) (p26 - Int.toNat (0 : Int))]) (x := (sub x2 0 (w64 ((x2.length : Int) - 16)))) ⟨_, _, _, rfl, (hs.g d0)⟩ (.nil : Reps (tSl (tInt .u8)) (Cl.G .i E.B I) h [] [])) ?_))
    intro b37 h hs
    obtain ⟨I, hs⟩ := hs.fO
    obtain ⟨hk, bk⟩ := hs.call tk0 (.c (qI d2) (.c (qK d0) .n))
    refine k_call H (fun _ m => mac_Tag.calls m hk) ?_
    rintro t39 _ h H ⟨I, _, ⟨rfl, rfl, hl40⟩, hk⟩
    replace hs := bk hk ct0 rfl
    obtain ⟨I, hs⟩ : ∃ I, St E _ I _ := ⟨_, hz.back hs⟩
    refine k_op (nA hs (List.map (Value.int .u8) (List.replicate 16 (0 : Int))) (.agg (List.map (Value.int .u8) (List.replicate 16 (0 : Int))).toArray) ?_)
    intro b41 h hs
    refine k_op (sAN (l2 := t39) hs (List.length_replicate (n := 16) (a := (0 : Int))) hl40 ?_)
    intro h hs
    obtain ⟨I, hs⟩ := hs.fA hl40
    refine st 5 [] (k_call H (fun _ m => mac_Equal.calls m ((hs.sR d0)).up1 (Sn.part (hs.sR d3) (lo := (w64 ((x2.length : Int) - 16))) (hi := (x2.length : Int)) c34 c35 (Int.le_refl _))) ?_)
    rintro t43 _ _ H ⟨rfl, rfl⟩
    cases t43
    ·rw [cond_false] at H
     refine st 7 [true] (k_op (sN (hs.f d4) 0 [.int .i64 0, .int .i64 0, .slice none 0 0] [.int .i64 0, .int .i64 0, .slice none 0 0] (ones_of rfl) ?_))
     intro h hs
     refine st 2 [] ?_
     refine k_retQ ?_
     obtain rfl := Option.some.inj H
     exact ⟨[.agg #[.int .i64 0, .int .i64 0, .slice none 0 0], .iface 56 (.int .i64 11)], (.cons (.agg (by kernel_rfl) (by kernel_rfl) (by kernel_rfl) ((hs.bl d0).seg_ 0 3 (Nat.le_of_ble_eq_true rfl))) (.cons (.tmp (by kernel_rfl)) .nil)), I, _, ⟨none, 0, 0, (.iface 56 (.int .i64 11)), rfl, rfl⟩, hs.pk (.f imON (.f imEC .n))⟩
    ·rw [cond_true] at H
     obtain ⟨c44, H⟩ := guard_pos H
     refine st 8 [false] (k_val (elemPtr (slA a25 p26 (Int.toNat (0 : Int)) 1) ((0 : Int).toNat * 1)) (pI (e := 5) (ik := .i64) (Sn.part (hs.sR d3) (lo := 0) (hi := (w64 ((x2.length : Int) - 16))) (Int.le_refl 0) c34 c35) (by decide) c44) ?_)
     refine k_op (lC ((Sn.part (hs.sR d3) (lo := 0) (hi := (w64 ((x2.length : Int) - 16))) (Int.le_refl 0) c34 c35).cell1 (by decide) c44) ?_)
     refine k_iteN H (fun c45 H => ?_) (fun c45 H => ?_)
     ·obtain ⟨c46, H⟩ := guard_pos H
      refine st 2 [] (k_val (elemPtr (slA a25 p26 (Int.toNat (0 : Int)) 1) ((1 : Int).toNat * 1)) (pI (e := 5) (ik := .i64) (Sn.part (hs.sR d3) (lo := 0) (hi := (w64 ((x2.length : Int) - 16))) (Int.le_refl 0) c34 c35) (by decide) c46) ?_)
      refine k_op (lC ((Sn.part (hs.sR d3) (lo := 0) (hi := (w64 ((x2.length : Int) - 16))) (Int.le_refl 0) c34 c35).cell1 (by decide) c46) ?_)
      refine st 2 [] (k_iteN H (fun c47 H => ?_) (fun c47 H => ?_))
      ·obtain ⟨c48, H⟩ := guard_pos H
       refine st 12 [false] (k_val (.slice (slA (slA a25 p26 (Int.toNat (0 : Int)) 1) (p26 - Int.toNat (0 : Int)) (Int.toNat (2 : Int)) 1) ((sub (sub x2 0 (w64 ((x2.length : Int) - 16))) 2 10).length) ((p26 - Int.toNat (0 : Int)) - Int.toNat (2 : Int))) (pS (e := 5) (k1 := .i64) (k2 := .i64) (Sn.part (hs.sR d3) (lo := 0) (hi := (w64 ((x2.length : Int) - 16))) (Int.le_refl 0) c34 c35) (by decide) (by decide) c48) ?_)
       refine st 4 [] ?_
       obtain ⟨s51, m54, HR53⟩ := bind_some H
       refine k_loop 1 (fun k' ρ h => ∃ (x49 : Int) (x50 : Int) (I : Gh), frame_Open.l1.m K x2 k' x49 x50 = some s51 ∧ Fits [(1, .int .i64 x1), (6, .pointer (some ⟨b29, 0, none⟩)), (8, .slice (slA a25 p26 (Int.toNat (0 : Int)) 1) ((sub x2 0 (w64 ((x2.length : Int) - 16))).length) (p26 - Int.toNat (0 : Int))), (11, .int .u64 x49), (61, .slice (slA (slA a25 p26 (Int.toNat (0 : Int)) 1) (p26 - Int.toNat (0 : Int)) (Int.toNat (2 : Int)) 1) ((sub (sub x2 0 (w64 ((x2.length : Int) - 16))) 2 10).length) ((p26 - Int.toNat (0 : Int)) - Int.toNat (2 : Int))), (62, .int .i64 ((sub (sub x2 0 (w64 ((x2.length : Int) - 16))) 2 10).length : Int)), (63, .int .i64 x50)] ρ ∧ St E [rR (tInt .u8) .b a25 p26 x2.length x2, rB b29 [.int .i64 0, .int .i64 0, .slice none 0 0] 30] I h) (fun ρ h => ∃ (x52 : Int) (I : Gh), x52 = s51 ∧ Fits [(1, .int .i64 x1), (6, .pointer (some ⟨b29, 0, none⟩)), (8, .slice (slA a25 p26 (Int.toNat (0 : Int)) 1) ((sub x2 0 (w64 ((x2.length : Int) - 16))).length) (p26 - Int.toNat (0 : Int))), (11, .int .u64 x52)] ρ ∧ St E [rR (tInt .u8) .b a25 p26 x2.length x2, rB b29 [.int .i64 0, .int .i64 0, .slice none 0 0] 30] I h) K ⟨0, 0, I, m54, ⟨by kernel_rfl, by kernel_rfl, by kernel_rfl, by kernel_rfl, by kernel_rfl, by kernel_rfl, by kernel_rfl, trivial⟩, hs.pk (.c d3 (.c d3 .n))⟩ ?_ rfl ?_
       ·clear HR53 m54 H
        rintro k' ρ h ⟨x49, x50, I, H, hf, hs⟩
        cases k' with
        | zero => cases H
        | succ k =>
         rw [frame_Open.l1.m] at H
         refine k_fits _ hf ?_ rfl
         refine st 2 [] (k_ite H (fun c55 H => ?_) (fun c55 H => ?_))
         ·obtain ⟨c56, H⟩ := guard_pos H
          refine st 8 [true] (k_val (elemPtr (slA (slA a25 p26 (Int.toNat (0 : Int)) 1) (p26 - Int.toNat (0 : Int)) (Int.toNat (2 : Int)) 1) (x50.toNat * 1)) (pI (e := 5) (ik := .i64) (Sn.part (Sn.part (hs.sR d0) (lo := 0) (hi := (w64 ((x2.length : Int) - 16))) (Int.le_refl 0) c34 c35) (lo := 2) (hi := 10) (by decide) (by decide) c48) c56 c55) ?_)
          refine k_op (lC ((Sn.part (Sn.part (hs.sR d0) (lo := 0) (hi := (w64 ((x2.length : Int) - 16))) (Int.le_refl 0) c34 c35) (lo := 2) (hi := 10) (by decide) (by decide) c48).cell1 c56 c55) ?_)
          refine st 15 [] ?_
          exact k_endL ⟨k, Nat.lt_succ_self _, (bOr .u64 (shl .u64 x49 8) (IntKind.u64.wrap ((at_ (sub (sub x2 0 (w64 ((x2.length : Int) - 16))) 2 10) x50)))), (w64 (x50 + 1)), I, H, ⟨by kernel_rfl, by kernel_rfl, by kernel_rfl, by kernel_rfl, by kernel_rfl, by kernel_rfl, by kernel_rfl, trivial⟩, hs.pk (.c d0 (.c d0 .n))⟩
         ·refine st 3 [false] ?_
          refine k_out rfl ?_
          obtain rfl := Option.some.inj H
          exact xE ⟨x49, I, rfl, ⟨by kernel_rfl, by kernel_rfl, by kernel_rfl, by kernel_rfl, trivial⟩, hs.pk (.c d0 (.c d0 .n))⟩
       ·rintro ρ h ⟨x52, I, rfl, hf, hs⟩
        have H := HR53
        try dsimp only at H
        refine k_fits _ hf ?_ rfl
        refine st 4 [] (k_ite H (fun c57 H => ?_) (fun c57 H => ?_))
        ·refine st 15 [true] (k_op (sN (hs.f d1) 0 [.int .i64 0, .int .i64 0, .slice none 0 0] [.int .i64 0, .int .i64 0, .slice none 0 0] (ones_of rfl) ?_))
         intro h hs
         refine st 2 [] ?_
         refine k_retQ ?_
         obtain rfl := Option.some.inj H
         exact ⟨[.agg #[.int .i64 0, .int .i64 0, .slice none 0 0], .iface 56 (.int .i64 1)], (.cons (.agg (by kernel_rfl) (by kernel_rfl) (by kernel_rfl) ((hs.bl d0).seg_ 0 3 (Nat.le_of_ble_eq_true rfl))) (.cons (.tmp (by kernel_rfl)) .nil)), I, _, ⟨none, 0, 0, (.iface 56 (.int .i64 1)), rfl, rfl⟩, hs.pk (.f imON (.f imEC .n))⟩
        ·refine st 2 [] (k_ite H (fun c58 H => ?_) (fun c58 H => ?_))
         ·refine st 12 [true] (k_op (sN (hs.f d1) 0 [.int .i64 0, .int .i64 0, .slice none 0 0] [.int .i64 0, .int .i64 0, .slice none 0 0] (ones_of rfl) ?_))
          intro h hs
          refine st 2 [] ?_
          refine k_retQ ?_
          obtain rfl := Option.some.inj H
          exact ⟨[.agg #[.int .i64 0, .int .i64 0, .slice none 0 0], .iface 56 (.int .i64 1)], (.cons (.agg (by kernel_rfl) (by kernel_rfl) (by kernel_rfl) ((hs.bl d0).seg_ 0 3 (Nat.le_of_ble_eq_true rfl))) (.cons (.tmp (by kernel_rfl)) .nil)), I, _, ⟨none, 0, 0, (.iface 56 (.int .i64 1)), rfl, rfl⟩, hs.pk (.f imON (.f imEC .n))⟩
         ·refine st 3 [] (k_call H (fun _ m => frame_sided.calls m) ?_)
          rintro t59 _ _ H ⟨rfl, rfl⟩
          cases t59
          ·rw [cond_false] at H
           refine st 8 [true] (k_op (sN (hs.f d1) 0 [.int .i64 0, .int .i64 0, .slice none 0 0] [.int .i64 0, .int .i64 0, .slice none 0 0] (ones_of rfl) ?_))
           intro h hs
           refine st 2 [] ?_
           refine k_retQ ?_
           obtain rfl := Option.some.inj H
           exact ⟨[.agg #[.int .i64 0, .int .i64 0, .slice none 0 0], .iface 56 (.int .i64 1)], (.cons (.agg (by kernel_rfl) (by kernel_rfl) (by kernel_rfl) ((hs.bl d0).seg_ 0 3 (Nat.le_of_ble_eq_true rfl))) (.cons (.tmp (by kernel_rfl)) .nil)), I, _, ⟨none, 0, 0, (.iface 56 (.int .i64 1)), rfl, rfl⟩, hs.pk (.f imON (.f imEC .n))⟩
          ·rw [cond_true] at H
           refine st 11 [false] (k_val (.slice (slA (slA a25 p26 (Int.toNat (0 : Int)) 1) (p26 - Int.toNat (0 : Int)) (Int.toNat (10 : Int)) 1) ((sub (sub x2 0 (w64 ((x2.length : Int) - 16))) 10 ((sub x2 0 (w64 ((x2.length : Int) - 16))).length : Int)).length) ((p26 - Int.toNat (0 : Int)) - Int.toNat (10 : Int))) (pSl (e := 5) (k1 := .i64) (Sn.part (hs.sR d0) (lo := 0) (hi := (w64 ((x2.length : Int) - 16))) (Int.le_refl 0) c34 c35) (by decide) c48 (Int.le_refl _)) ?_)
           obtain ⟨hk, bk⟩ := hs.call tk0 (.c (qP (qP (qB d0) (lo := 0) (hi := (w64 ((x2.length : Int) - 16))) (Int.le_refl 0) c34 c35) (lo := 10) (hi := ((sub x2 0 (w64 ((x2.length : Int) - 16))).length : Int)) (by decide) c48 (Int.le_refl _)) .n)
           refine k_call H (fun _ m => slices_Clone_bytes.calls m hk) ?_
           rintro t60 _ h H ⟨I, _, ⟨a61, p62, n63, rfl, rfl⟩, hk⟩
           replace hs := bk hk ct1 rfl
           obtain rfl := hs.nO d0
           refine st 1 [] (k_op (sN (hs.f d2) 0 [.int .i64 x1, .int .i64 (w64 (x52)), .slice a61 t60.length p62] [.int .i64 x1, .int .i64 (w64 (x52)), .slice a61 t60.length p62] (ones_of rfl) ?_))
           intro h hs
           refine st 2 [] ?_
           refine k_retQ ?_
           obtain rfl := Option.some.inj H
           exact ⟨[.agg #[.int .i64 x1, .int .i64 (w64 (x52)), .slice a61 t60.length p62], .nilIface], (.cons (.agg (by kernel_rfl) (by kernel_rfl) (by kernel_rfl) ((hs.bl d0).seg_ 0 3 (Nat.le_of_ble_eq_true rfl))) (.cons (.tmp (by kernel_rfl)) .nil)), I, _, ⟨a61, p62, t60.length, (.nilIface), rfl, rfl⟩, hs.pk (.c d1 (.f imEN .n))⟩
      ·refine st 7 [true] (k_op (sN (hs.f d4) 0 [.int .i64 0, .int .i64 0, .slice none 0 0] [.int .i64 0, .int .i64 0, .slice none 0 0] (ones_of rfl) ?_))
       intro h hs
       refine st 2 [] ?_
       refine k_retQ ?_
       obtain rfl := Option.some.inj H
       exact ⟨[.agg #[.int .i64 0, .int .i64 0, .slice none 0 0], .iface 56 (.int .i64 13)], (.cons (.agg (by kernel_rfl) (by kernel_rfl) (by kernel_rfl) ((hs.bl d0).seg_ 0 3 (Nat.le_of_ble_eq_true rfl))) (.cons (.tmp (by kernel_rfl)) .nil)), I, _, ⟨none, 0, 0, (.iface 56 (.int .i64 13)), rfl, rfl⟩, hs.pk (.f imON (.f imEC .n))⟩
     ·refine st 14 [true] (k_op (sN (hs.f d4) 0 [.int .i64 0, .int .i64 0, .slice none 0 0] [.int .i64 0, .int .i64 0, .slice none 0 0] (ones_of rfl) ?_))
      intro h hs
      refine st 2 [] ?_
      refine k_retQ ?_
      obtain rfl := Option.some.inj H
      exact ⟨[.agg #[.int .i64 0, .int .i64 0, .slice none 0 0], .iface 56 (.int .i64 13)], (.cons (.agg (by kernel_rfl) (by kernel_rfl) (by kernel_rfl) ((hs.bl d0).seg_ 0 3 (Nat.le_of_ble_eq_true rfl))) (.cons (.tmp (by kernel_rfl)) .nil)), I, _, ⟨none, 0, 0, (.iface 56 (.int .i64 13)), rfl, rfl⟩, hs.pk (.f imON (.f imEC .n))⟩
  ·rw [cond_true] at H
   refine st 5 [true] (k_op (sN (hs.f d2) 0 [.int .i64 0, .int .i64 0, .slice none 0 0] [.int .i64 0, .int .i64 0, .slice none 0 0] (ones_of rfl) ?_))
   intro h hs
   refine st 2 [] ?_
   refine k_retQ ?_
   obtain rfl := Option.some.inj H
   exact ⟨[.agg #[.int .i64 0, .int .i64 0, .slice none 0 0], .iface 56 (.int .i64 2)], (.cons (.agg (by kernel_rfl) (by kernel_rfl) (by kernel_rfl) ((hs.bl d0).seg_ 0 3 (Nat.le_of_ble_eq_true rfl))) (.cons (.tmp (by kernel_rfl)) .nil)), I, _, ⟨none, 0, 0, (.iface 56 (.int .i64 2)), rfl, rfl⟩, hs.pk (.f imON (.f imEC .n))⟩

/-! shutter/frame.numbered -/
def frame_numbered.m (x0 : Int) : Option Bool :=
  (if x0 ≥ 1 then (some (decide (x0 ≤ 4611686018427387904))) else (some false))

theorem frame_numbered.calls {x0 : Int} {h : Heap} {r : Bool} (H : frame_numbered.m x0 = some r)   :
    Ret Tryd.prog 30 #[.int .i64 x0] h (fun v h' => .bool r = v ∧ h' = h) := by
 unfold frame_numbered.m at H
 refine fn_of (args := [.int .i64 x0]) (rs := [.tmp 2]) (N := 9) Tryd.func30 rfl rfl rfl rfl ?_
 refine st 7 [] (k_ite H (fun c21 H => ?_) (fun c21 H => ?_))
 ·refine st 6 [] ?_
  refine k_retQ ?_
  obtain rfl := Option.some.inj H
  exact ⟨_, by kernel_rfl, rfl, rfl⟩
 ·refine st 6 [] ?_
  refine k_retQ ?_
  obtain rfl := Option.some.inj H
  exact ⟨_, by kernel_rfl, rfl, rfl⟩

/-! shutter/frame.Seal -/
def frame_Seal.l1.m (K : Nat) (x1 : api_Frame) : Nat → (List Int) → Int → Option ((List Int))
  | 0, _, _ => none
  | k + 1, x37, x42 => (letJ (α := Bool → Option ((List Int))) (fun (x52 : Bool) => (bif x52 then (if 0 ≤ (w64 (56 - (w64 (8 * x42)))) then ((app x37 [(IntKind.u8.wrap ((shr .i64 x1.Seq (w64 (56 - (w64 (8 * x42)))))))]).bind fun l57 => (frame_Seal.l1.m K x1 k l57 (w64 (x42 + 1)))) else none) else (some (x37)))) fun (j53 : Bool → Option ((List Int))) => (if x42 < 8 then (j53 true) else (j53 false)))
def frame_Seal.m (K : Nat) (x0 : (List Int)) (x1 : api_Frame) : Option ((List Int) × GoErr) :=
  (letJ (α := Bool → Option ((List Int) × GoErr)) (fun (x32 : Bool) => (bif x32 then (some ([], (GoErr.no 1))) else (if (x1.Body.length : Int) > 486 then (some ([], (GoErr.no 6))) else ((frame_Seal.l1.m K x1 K [1, (IntKind.u8.wrap (x1.Dir))] 0).bind fun x44 => ((app x44 x1.Body).bind fun l63 => ((mac_Tag.m K x0 [l63]).bind fun t70 => ((app l63 t70).bind fun l74 => (some (l74, GoErr.nil))))))))) fun (j33 : Bool → Option ((List Int) × GoErr)) => ((frame_sided.m x1.Dir).bind fun t30 => bif t30 then ((frame_numbered.m x1.Seq).bind fun t31 => bif t31 then (j33 false) else (j33 true)) else (j33 true)))

theorem frame_Seal.calls {B I : Gh} {h : Heap} {K : Nat} {x0 : (List Int)} {x1 : api_Frame} {a21 : Option Addr} {p22 : Nat} {n23 : Nat} {a25 : Option Addr} {p26 : Nat} {n27 : Nat} {r : ((List Int) × GoErr)} (H : frame_Seal.m K x0 x1 = some r)  :
    Fc Tryd.prog 14 #[.slice a21 n23 p22, .agg #[.int .i64 x1.Dir, .int .i64 x1.Seq, .slice a25 n27 p26]] [rR (tInt .u8) .b a21 p22 n23 x0, rR (tInt .u8) .b a25 p26 n27 x1.Body] B I h (fun v L => ∃ (a80 : Option Addr) (p81 : Nat) (n82 : Nat) (v84 : Value), v = .tuple #[.slice a80 n82 p81, v84] ∧ L = [rO (tInt .u8) .i a80 p81 n82 r.1, rE .i v84 r.2]) := by
 refine fc_of fun E hs => ?_
 unfold frame_Seal.m at H
 obtain rfl := hs.nR d0
 obtain rfl := hs.nR d1
 refine fn_of (args := [.slice a21 x0.length p22, .agg #[.int .i64 x1.Dir, .int .i64 x1.Seq, .slice a25 x1.Body.length p26]]) (rs := [.tmp 4, .tmp 5]) (N := 56) Tryd.func14 rfl rfl rfl rfl ?_
 refine st 2 [] (k_op (nB hs [.int .i64 x1.Dir, .int .i64 x1.Seq, .slice a25 x1.Body.length p26] ?_))
 intro b29 h hs
 refine st 6 [] ?_
 obtain ⟨j33, e79, H⟩ := letJ_some H
 refine k_join (fun ρ h => ∃ (x32 : Bool) (I : Gh), j33 x32 = some r ∧ Fits [(0, .slice a21 x0.length p22), (3, .pointer (some ⟨b29, 0, none⟩)), (9, .bool x32)] ρ ∧ St E [rR (tInt .u8) .b a21 p22 x0.length x0, rR (tInt .u8) .b a25 p26 x1.Body.length x1.Body, rB b29 [.int .i64 x1.Dir, .int .i64 x1.Seq, .slice a25 x1.Body.length p26] 30] I h) ?_ ?_
 ·refine st 2 [] (k_op (lB (hs.bl d0) 0 rfl ?_))
  refine k_call H (fun _ m => frame_sided.calls m) ?_
  rintro t30 _ _ H ⟨rfl, rfl⟩
  cases t30
  ·rw [cond_false] at H
   refine st 9 [] ?_
   exact k_end ⟨true, I, H, ⟨by kernel_rfl, by kernel_rfl, by kernel_rfl, trivial⟩, hs.pk (.c d1 (.c d1 (.c d0 .n)))⟩
  ·rw [cond_true] at H
   refine st 3 [] (k_op (lB (hs.bl d0) 1 rfl ?_))
   refine k_call H (fun _ m => frame_numbered.calls m) ?_
   rintro t31 _ _ H ⟨rfl, rfl⟩
   cases t31
   ·rw [cond_false] at H
    refine st 4 [] ?_
    exact k_end ⟨true, I, H, ⟨by kernel_rfl, by kernel_rfl, by kernel_rfl, trivial⟩, hs.pk (.c d1 (.c d1 (.c d0 .n)))⟩
   ·rw [cond_true] at H
    refine st 4 [] ?_
    exact k_end ⟨false, I, H, ⟨by kernel_rfl, by kernel_rfl, by kernel_rfl, trivial⟩, hs.pk (.c d1 (.c d1 (.c d0 .n)))⟩
 ·clear H
  rintro ρ h ⟨x32, I, H, hf, hs⟩
  refine k_fits _ hf ?_ rfl
  subst e79
  try dsimp only at H
  cases x32
  ·rw [cond_false] at H
   refine st 4 [false] (k_op (lB (hs.bl d2) 2 rfl ?_))
   refine st 1 [] (k_ite H (fun c34 H => ?_) (fun c34 H => ?_))
   ·refine st 9 [true] ?_
    refine k_retQ ?_
    obtain rfl := Option.some.inj H
    exact ⟨_, by kernel_rfl, I, _, ⟨none, 0, 0, (.iface 56 (.int .i64 6)), rfl, rfl⟩, hs.pk (.f imON (.f imEC .n))⟩
   ·refine st 8 [false] (k_op (lB (hs.bl d2) 0 rfl ?_))
    refine st 1 [] (k_op (nS (e := 5) hs .i (tInt .u8) ([1, (IntKind.u8.wrap (x1.Dir))] : List Int) [.int .u8 1, .int .u8 (IntKind.u8.wrap (x1.Dir))] 1 (.int .u8 0) (Reps.int (I := (Cl.G .i E.B I)) (k := .u8) (l := [1, (IntKind.u8.wrap (x1.Dir))])) ?_))
    intro b35 h hs
    refine st 8 [] ?_
    obtain ⟨s43, m50, HR49⟩ := bind_some H
    refine k_loop 1 (fun k' ρ h => ∃ (x37 : List Int) (x42 : Int) (a38 : Option Addr) (p39 : Nat) (n40 : Nat) (I : Gh), frame_Seal.l1.m K x1 k' x37 x42 = some s43 ∧ Fits [(0, .slice a21 x0.length p22), (3, .pointer (some ⟨b29, 0, none⟩)), (6, .slice a38 n40 p39), (31, .int .i64 x42)] ρ ∧ St E [rR (tInt .u8) .b a21 p22 x0.length x0, rO (tInt .u8) .i a38 p39 n40 x37, rR (tInt .u8) .b a25 p26 x1.Body.length x1.Body, rB b29 [.int .i64 x1.Dir, .int .i64 x1.Seq, .slice a25 x1.Body.length p26] 30] I h) (fun ρ h => ∃ (x44 : List Int) (a45 : Option Addr) (p46 : Nat) (n47 : Nat) (I : Gh), x44 = s43 ∧ Fits [(0, .slice a21 x0.length p22), (3, .pointer (some ⟨b29, 0, none⟩)), (6, .slice a45 n47 p46)] ρ ∧ St E [rR (tInt .u8) .b a21 p22 x0.length x0, rO (tInt .u8) .i a45 p46 n47 x44, rR (tInt .u8) .b a25 p26 x1.Body.length x1.Body, rB b29 [.int .i64 x1.Dir, .int .i64 x1.Seq, .slice a25 x1.Body.length p26] 30] I h) K ⟨[1, (IntKind.u8.wrap (x1.Dir))], 0, (some ⟨b35, 0, none⟩), 2, 2, I, m50, ⟨by kernel_rfl, by kernel_rfl, by kernel_rfl, by kernel_rfl, trivial⟩, hs.pk (.c d1 (.c d0 (.c d0 (.c d0 .n))))⟩ ?_ rfl ?_
    ·clear HR49 m50 H
     rintro k' ρ h ⟨x37, x42, a38, p39, n40, I, H, hf, hs⟩
     cases k' with
     | zero => cases H
     | succ k =>
      rw [frame_Seal.l1.m] at H
      refine k_fits _ hf ?_ rfl
      obtain rfl := hs.nO d1
      refine st 1 [] ?_
      obtain ⟨j53, e62, H⟩ := letJ_some H
      refine k_join (fun ρ h => ∃ (x52 : Bool) (I : Gh), j53 x52 = some s43 ∧ Fits [(0, .slice a21 x0.length p22), (3, .pointer (some ⟨b29, 0, none⟩)), (6, .slice a38 x37.length p39), (31, .int .i64 x42), (32, .bool x52)] ρ ∧ St E [rR (tInt .u8) .b a21 p22 x0.length x0, rO (tInt .u8) .i a38 p39 x37.length x37, rR (tInt .u8) .b a25 p26 x1.Body.length x1.Body, rB b29 [.int .i64 x1.Dir, .int .i64 x1.Seq, .slice a25 x1.Body.length p26] 30] I h) ?_ ?_
      ·refine st 1 [] (k_ite H (fun c51 H => ?_) (fun c51 H => ?_))
       ·refine st 1 [] ?_
        exact k_end ⟨true, I, H, ⟨by kernel_rfl, by kernel_rfl, by kernel_rfl, by kernel_rfl, by kernel_rfl, trivial⟩, hs.pk (.c d0 (.c d0 (.c d0 (.c d0 .n))))⟩
       ·refine st 1 [] ?_
        exact k_end ⟨false, I, H, ⟨by kernel_rfl, by kernel_rfl, by kernel_rfl, by kernel_rfl, by kernel_rfl, trivial⟩, hs.pk (.c d0 (.c d0 (.c d0 (.c d0 .n))))⟩
      ·clear H
       rintro ρ h ⟨x52, I, H, hf, hs⟩
       refine k_fits _ hf ?_ rfl
       subst e62
       try dsimp only at H
       cases x52
       ·rw [cond_false] at H
        refine st 2 [false] ?_
        refine k_out rfl ?_
        obtain rfl := Option.some.inj H
        exact xE ⟨x37, a38, p39, x37.length, I, rfl, ⟨by kernel_rfl, by kernel_rfl, by kernel_rfl, trivial⟩, hs.pk (.c d0 (.c d0 (.c d0 (.c d0 .n))))⟩
       ·rw [cond_true] at H
        refine st 13 [true] (k_op (lB (hs.bl d3) 1 rfl ?_))
        obtain ⟨c54, H⟩ := guard_pos H
        refine st 3 [] (k_val (.int .i64 (shr .i64 x1.Seq (w64 (56 - (w64 (8 * x42)))))) (pr_shr (k := .i64) (yk := .i64) (a := x1.Seq) (b := (w64 (56 - (w64 (8 * x42))))) (by kernel_rfl) (by kernel_rfl) c54) ?_)
        refine st 1 [] (k_op (nS (e := 5) hs .i (tInt .u8) ([(IntKind.u8.wrap ((shr .i64 x1.Seq (w64 (56 - (w64 (8 * x42)))))))] : List Int) [.int .u8 (IntKind.u8.wrap ((shr .i64 x1.Seq (w64 (56 - (w64 (8 * x42)))))))] 1 (.int .u8 0) (Reps.int (I := (Cl.G .i E.B I)) (k := .u8) (l := [(IntKind.u8.wrap ((shr .i64 x1.Seq (w64 (56 - (w64 (8 * x42)))))))])) ?_))
        intro b55 h hs
        replace hs := (hs.f d2)
        obtain ⟨l57, m58, H⟩ := bind_some H
        refine k_op (aO (e := 5) (bytes := 1) hs (hs.sO d1) m58 ?_)
        intro a59 p60 h hs
        refine st 7 [] ?_
        exact k_endL ⟨k, Nat.lt_succ_self _, l57, (w64 (x42 + 1)), a59, p60, l57.length, I, H, ⟨by kernel_rfl, by kernel_rfl, by kernel_rfl, by kernel_rfl, trivial⟩, hs.pk (.c d2 (.c d0 (.c d1 (.c d1 .n))))⟩
    ·rintro ρ h ⟨x44, a45, p46, n47, I, rfl, hf, hs⟩
     have H := HR49
     try dsimp only at H
     refine k_fits _ hf ?_ rfl
     obtain rfl := hs.nO d1
     refine st 4 [] (k_op (lB (hs.bl d3) 2 rfl ?_))
     replace hs := (hs.f d1)
     obtain ⟨l63, m64, H⟩ := bind_some H
     refine k_op (aO (e := 5) (bytes := 1) hs ((hs.sR d2).flat flat_int) m64 ?_)
     intro a65 p66 h hs
     have hz := hs
     obtain ⟨I, hs⟩ := hs.all (.o (.r (.r (.d .n))))
     refine st 6 [] (k_op (nS (e := 22) hs .i (tSl (tInt .u8)) ([l63] : List (List Int)) [.slice a65 l63.length p66] 1 (.slice none 0 0) (Reps.cons (T := (tSl (tInt .u8))) (c := [.slice a65 l63.length p66]) (x := l63) ⟨_, _, _, rfl, (hs.g d0)⟩ (.nil : Reps (tSl (tInt .u8)) (Cl.G .i E.B I) h [] [])) ?_))
     intro b68 h hs
     obtain ⟨I, hs⟩ := hs.fO
     obtain ⟨hk, bk⟩ := hs.call tk0 (.c (qI d2) (.c (qK d0) .n))
     refine k_call H (fun _ m => mac_Tag.calls m hk) ?_
     rintro t70 _ h H ⟨I, _, ⟨rfl, rfl, hl71⟩, hk⟩
     replace hs := bk hk ct0 rfl
     obtain ⟨I, hs⟩ : ∃ I, St E _ I _ := ⟨_, hz.back hs⟩
     refine k_op (nA hs (List.map (Value.int .u8) (List.replicate 16 (0 : Int))) (.agg (List.map (Value.int .u8) (List.replicate 16 (0 : Int))).toArray) ?_)
     intro b72 h hs
     refine k_op (sAN (l2 := t70) hs (List.length_replicate (n := 16) (a := (0 : Int))) hl71 ?_)
     intro h hs
     obtain ⟨I, hs⟩ := hs.fA hl71
     replace hs := (hs.f d1)
     obtain ⟨l74, m75, H⟩ := bind_some H
     refine st 5 [] (k_op (aO (e := 5) (bytes := 1) hs (hs.sR d1) m75 ?_))
     intro a76 p77 h hs
     refine st 3 [] ?_
     refine k_retQ ?_
     obtain rfl := Option.some.inj H
     exact ⟨_, by kernel_rfl, I, _, ⟨a76, p77, l74.length, (.nilIface), rfl, rfl⟩, hs.pk (.c d0 (.f imEN .n))⟩
  ·rw [cond_true] at H
   refine st 7 [true] ?_
   refine k_retQ ?_
   obtain rfl := Option.some.inj H
   exact ⟨_, by kernel_rfl, I, _, ⟨none, 0, 0, (.iface 56 (.int .i64 1)), rfl, rfl⟩, hs.pk (.f imON (.f imEC .n))⟩

/-! shutter/shutterlaw19.awake -/
def shutterlaw19_awake.m (K : Nat)  : Option Bool :=
  ((frame_Seal.m K [107] (⟨0, 1, []⟩ : api_Frame)).bind fun t23 => ((frame_Open.m K [107] 0 t23.1).bind fun t32 => ((frame_Open.m K [108] 0 t23.1).bind fun t42 => ((frame_Open.m K [107] 1 t23.1).bind fun t52 => (if t23.2 = GoErr.nil then (if (t23.1.length : Int) = 26 then (if t32.2 = GoErr.nil then (if t32.1.Seq = 1 then ((api_Code.m t42.2).bind fun t68 => (if t68 = 11 then ((api_Code.m t52.2).bind fun t70 => (some (t70 == 13))) else (some false))) else (some false)) else (some false)) else (some false)) else (some false))))))

theorem shutterlaw19_awake.calls {B I : Gh} {h : Heap} {K : Nat} {r : Bool} (H : shutterlaw19_awake.m K = some r)  :
    Fc Tryd.prog 13 #[] [rG] B I h (fun v L => v = .bool r ∧ L = []) := by
 refine fc_of fun E hs => ?_
 unfold shutterlaw19_awake.m at H
 refine fn_of (args := []) (rs := [.tmp 0]) (N := 63) Tryd.func13 rfl rfl rfl rfl ?_
 refine st 6 [] (k_op (nS (e := 5) hs .i (tInt .u8) ([107] : List Int) [.int .u8 107] 1 (.int .u8 0) (Reps.int (I := (Cl.G .i E.B I)) (k := .u8) (l := [107])) ?_))
 intro b21 h hs
 refine k_op (cvO (e := 5) hs ?_)
 intro I h hs
 obtain ⟨hk, bk⟩ := hs.call tk0 (.c (qI d0) (.c qN .n))
 refine st 1 [] (k_call H (fun _ m => frame_Seal.calls m hk) ?_)
 rintro t23 _ h H ⟨I, _, ⟨a24, p25, n26, v28, rfl, rfl⟩, hk⟩
 replace hs := bk hk ct2 rfl
 obtain rfl := hs.nO d0
 refine st 8 [] (k_op (nS (e := 5) hs .i (tInt .u8) ([107] : List Int) [.int .u8 107] 1 (.int .u8 0) (Reps.int (I := (Cl.G .i E.B I)) (k := .u8) (l := [107])) ?_))
 intro b30 h hs
 refine k_op (cvO (e := 5) hs ?_)
 intro I h hs
 obtain ⟨hk, bk⟩ := hs.call tk0 (.c (qI d0) (.c (qO d1) .n))
 refine st 1 [] (k_call H (fun _ m => frame_Open.calls m hk) ?_)
 rintro t32 _ h H ⟨I, _, ⟨a33, p34, n35, v37, rfl, rfl⟩, hk⟩
 replace hs := bk hk ct2 rfl
 obtain rfl := hs.nO d0
 refine st 3 [] (k_op (nA hs [.int .i64 0, .int .i64 0, .slice none 0 0] (.agg #[.int .i64 0, .int .i64 0, .slice none 0 0]) ?_))
 intro b39 h hs
 refine k_op (sN hs 0 [.int .i64 t32.1.Dir, .int .i64 t32.1.Seq, .slice a33 t32.1.Body.length p34] [.int .i64 t32.1.Dir, .int .i64 t32.1.Seq, .slice a33 t32.1.Body.length p34] (ones_of rfl) ?_)
 intro h hs
 refine st 4 [] (k_op (nS (e := 5) hs .i (tInt .u8) ([108] : List Int) [.int .u8 108] 1 (.int .u8 0) (Reps.int (I := (Cl.G .i E.B I)) (k := .u8) (l := [108])) ?_))
 intro b40 h hs
 refine k_op (cvO (e := 5) hs ?_)
 intro I h hs
 obtain ⟨hk, bk⟩ := hs.call tk0 (.c (qI d0) (.c (qO d5) .n))
 refine st 1 [] (k_call H (fun _ m => frame_Open.calls m hk) ?_)
 rintro t42 _ h H ⟨I, _, ⟨a43, p44, n45, v47, rfl, rfl⟩, hk⟩
 replace hs := bk hk ct2 rfl
 obtain rfl := hs.nO d0
 refine st 3 [] (k_op (nA hs [.int .i64 0, .int .i64 0, .slice none 0 0] (.agg #[.int .i64 0, .int .i64 0, .slice none 0 0]) ?_))
 intro b49 h hs
 refine k_op (sN hs 0 [.int .i64 t42.1.Dir, .int .i64 t42.1.Seq, .slice a43 t42.1.Body.length p44] [.int .i64 t42.1.Dir, .int .i64 t42.1.Seq, .slice a43 t42.1.Body.length p44] (ones_of rfl) ?_)
 intro h hs
 refine st 4 [] (k_op (nS (e := 5) hs .i (tInt .u8) ([107] : List Int) [.int .u8 107] 1 (.int .u8 0) (Reps.int (I := (Cl.G .i E.B I)) (k := .u8) (l := [107])) ?_))
 intro b50 h hs
 refine k_op (cvO (e := 5) hs ?_)
 intro I h hs
 obtain ⟨hk, bk⟩ := hs.call tk0 (.c (qI d0) (.c (qO d9) .n))
 refine st 1 [] (k_call H (fun _ m => frame_Open.calls m hk) ?_)
 rintro t52 _ h H ⟨I, _, ⟨a53, p54, n55, v57, rfl, rfl⟩, hk⟩
 replace hs := bk hk ct2 rfl
 obtain rfl := hs.nO d0
 refine st 3 [] (k_op (nA hs [.int .i64 0, .int .i64 0, .slice none 0 0] (.agg #[.int .i64 0, .int .i64 0, .slice none 0 0]) ?_))
 intro b59 h hs
 refine k_op (sN hs 0 [.int .i64 t52.1.Dir, .int .i64 t52.1.Seq, .slice a53 t52.1.Body.length p54] [.int .i64 t52.1.Dir, .int .i64 t52.1.Seq, .slice a53 t52.1.Body.length p54] (ones_of rfl) ?_)
 intro h hs
 rcases (hs.er d13).cases with ⟨c60, rfl⟩ | ⟨c60, t61, u62, rfl⟩
 ·rw [if_pos c60] at H
  refine st 9 [] (k_ite H (fun c63 H => ?_) (fun c63 H => ?_))
  ·rcases (hs.er d10).cases with ⟨c64, rfl⟩ | ⟨c64, t65, u66, rfl⟩
   ·rw [if_pos c64] at H
    refine st 7 [] (k_op (lB (hs.bl d8) 1 rfl ?_))
    refine k_ite H (fun c67 H => ?_) (fun c67 H => ?_)
    ·obtain ⟨hk, bk⟩ := hs.call tk0 (.c (xI d6) (.c (gK d15) .n))
     refine st 3 [] (k_call H (fun _ m => api_Code.calls m hk) ?_)
     rintro t68 _ h H ⟨I, _, ⟨rfl, rfl⟩, hk⟩
     replace hs := bk hk ct0 rfl
     refine k_ite H (fun c69 H => ?_) (fun c69 H => ?_)
     ·obtain ⟨hk, bk⟩ := hs.call tk0 (.c (xI d2) (.c (gK d15) .n))
      refine st 3 [] (k_call H (fun _ m => api_Code.calls m hk) ?_)
      rintro t70 _ h H ⟨I, _, ⟨rfl, rfl⟩, hk⟩
      replace hs := bk hk ct0 rfl
      refine st 4 [] ?_
      refine k_retQ ?_
      obtain rfl := Option.some.inj H
      exact ⟨_, by kernel_rfl, I, _, ⟨rfl, rfl⟩, hs.pk .n⟩
     ·refine st 8 [] ?_
      refine k_retQ ?_
      obtain rfl := Option.some.inj H
      exact ⟨_, by kernel_rfl, I, _, ⟨rfl, rfl⟩, hs.pk .n⟩
    ·refine st 13 [] ?_
     refine k_retQ ?_
     obtain rfl := Option.some.inj H
     exact ⟨_, by kernel_rfl, I, _, ⟨rfl, rfl⟩, hs.pk .n⟩
   ·rw [if_neg c64] at H
    refine st 22 [] ?_
    refine k_retQ ?_
    obtain rfl := Option.some.inj H
    exact ⟨_, by kernel_rfl, I, _, ⟨rfl, rfl⟩, hs.pk .n⟩
  ·refine st 22 [] ?_
   refine k_retQ ?_
   obtain rfl := Option.some.inj H
   exact ⟨_, by kernel_rfl, I, _, ⟨rfl, rfl⟩, hs.pk .n⟩
 ·rw [if_neg c60] at H
  refine st 32 [] ?_
  refine k_retQ ?_
  obtain rfl := Option.some.inj H
  exact ⟨_, by kernel_rfl, I, _, ⟨rfl, rfl⟩, hs.pk .n⟩

/-! shutter/shutterref19.Wrong -/
def shutterref19_Wrong.m (x0 : api_Frame) : Option Int :=
  (if x0.Dir = 0 then (if x0.Seq < 1 then (some 1) else (if x0.Seq > 4611686018427387904 then (some 1) else (if (x0.Body.length : Int) > 486 then (some 6) else (some 0)))) else (if x0.Dir = 1 then (if x0.Seq < 1 then (some 1) else (if x0.Seq > 4611686018427387904 then (some 1) else (if (x0.Body.length : Int) > 486 then (some 6) else (some 0)))) else (some 1)))

theorem shutterref19_Wrong.calls {B I : Gh} {h : Heap} {x0 : api_Frame} {a21 : Option Addr} {p22 : Nat} {n23 : Nat} {r : Int} (H : shutterref19_Wrong.m x0 = some r)  :
    Fc Tryd.prog 15 #[.agg #[.int .i64 x0.Dir, .int .i64 x0.Seq, .slice a21 n23 p22]] [rR (tInt .u8) .b a21 p22 n23 x0.Body] B I h (fun v L => v = .int .i64 r ∧ L = []) := by
 refine fc_of fun E hs => ?_
 unfold shutterref19_Wrong.m at H
 obtain rfl := hs.nR d0
 refine fn_of (args := [.agg #[.int .i64 x0.Dir, .int .i64 x0.Seq, .slice a21 x0.Body.length p22]]) (rs := [.tmp 2]) (N := 25) Tryd.func15 rfl rfl rfl rfl ?_
 refine st 2 [] (k_op (nB hs [.int .i64 x0.Dir, .int .i64 x0.Seq, .slice a21 x0.Body.length p22] ?_))
 intro b25 h hs
 refine st 6 [] (k_op (lB (hs.bl d0) 0 rfl ?_))
 refine k_iteN H (fun c26 H => ?_) (fun c26 H => ?_)
 ·refine st 7 [] (k_op (lB (hs.bl d0) 1 rfl ?_))
  refine k_ite H (fun c27 H => ?_) (fun c27 H => ?_)
  ·refine st 12 [true] ?_
   refine k_retQ ?_
   obtain rfl := Option.some.inj H
   exact ⟨_, by kernel_rfl, I, _, ⟨rfl, rfl⟩, hs.pk .n⟩
  ·refine st 3 [] (k_op (lB (hs.bl d0) 1 rfl ?_))
   refine k_ite H (fun c28 H => ?_) (fun c28 H => ?_)
   ·refine st 7 [true] ?_
    refine k_retQ ?_
    obtain rfl := Option.some.inj H
    exact ⟨_, by kernel_rfl, I, _, ⟨rfl, rfl⟩, hs.pk .n⟩
   ·refine st 8 [false] (k_op (lB (hs.bl d0) 2 rfl ?_))
    refine st 1 [] (k_ite H (fun c29 H => ?_) (fun c29 H => ?_))
    ·refine st 6 [true] ?_
     refine k_retQ ?_
     obtain rfl := Option.some.inj H
     exact ⟨_, by kernel_rfl, I, _, ⟨rfl, rfl⟩, hs.pk .n⟩
    ·refine st 7 [false] ?_
     refine k_retQ ?_
     obtain rfl := Option.some.inj H
     exact ⟨_, by kernel_rfl, I, _, ⟨rfl, rfl⟩, hs.pk .n⟩
 ·refine st 2 [] (k_op (lB (hs.bl d0) 0 rfl ?_))
  refine k_iteN H (fun c30 H => ?_) (fun c30 H => ?_)
  ·refine st 3 [] (k_op (lB (hs.bl d0) 1 rfl ?_))
   refine k_ite H (fun c31 H => ?_) (fun c31 H => ?_)
   ·refine st 12 [true] ?_
    refine k_retQ ?_
    obtain rfl := Option.some.inj H
    exact ⟨_, by kernel_rfl, I, _, ⟨rfl, rfl⟩, hs.pk .n⟩
   ·refine st 3 [] (k_op (lB (hs.bl d0) 1 rfl ?_))
    refine k_ite H (fun c32 H => ?_) (fun c32 H => ?_)
    ·refine st 7 [true] ?_
     refine k_retQ ?_
     obtain rfl := Option.some.inj H
     exact ⟨_, by kernel_rfl, I, _, ⟨rfl, rfl⟩, hs.pk .n⟩
    ·refine st 8 [false] (k_op (lB (hs.bl d0) 2 rfl ?_))
     refine st 1 [] (k_ite H (fun c33 H => ?_) (fun c33 H => ?_))
     ·refine st 6 [true] ?_
      refine k_retQ ?_
      obtain rfl := Option.some.inj H
      exact ⟨_, by kernel_rfl, I, _, ⟨rfl, rfl⟩, hs.pk .n⟩
     ·refine st 7 [false] ?_
      refine k_retQ ?_
      obtain rfl := Option.some.inj H
      exact ⟨_, by kernel_rfl, I, _, ⟨rfl, rfl⟩, hs.pk .n⟩
  ·refine st 17 [true] ?_
   refine k_retQ ?_
   obtain rfl := Option.some.inj H
   exact ⟨_, by kernel_rfl, I, _, ⟨rfl, rfl⟩, hs.pk .n⟩

/-! shutter/shutterref01.Word -/
def shutterref01_Word.l1.m (K : Nat) (x0 : ByteArray) (x1 : Int) : Nat → Int → Int → Option (Int)
  | 0, _, _ => none
  | k + 1, x21, x22 => (if x22 < (w64 ((w64 (8 * x1)) + 8)) then (if 0 ≤ x22 then (if x22 < (x0.size : Int) then (if (bt x0 x22) ≥ 97 then (shutterref01_Word.l1.m K x0 x1 k (w64 ((w64 (16 * x21)) + (w64 ((w64 ((bt x0 x22))) - 87)))) (w64 (x22 + 1))) else (shutterref01_Word.l1.m K x0 x1 k (w64 ((w64 (16 * x21)) + (w64 ((w64 ((bt x0 x22))) - 48)))) (w64 (x22 + 1)))) else none) else none) else (some (x21)))
def shutterref01_Word.m (K : Nat) (x0 : ByteArray) (x1 : Int) : Option Int :=
  ((shutterref01_Word.l1.m K x0 x1 K 0 (w64 (8 * x1))).bind fun x24 => (some x24))

theorem shutterref01_Word.calls {K : Nat} {x0 : ByteArray} {x1 : Int} {h : Heap} {r : Int} (H : shutterref01_Word.m K x0 x1 = some r)   :
    Ret Tryd.prog 57 #[.string x0, .int .i64 x1] h (fun v h' => .int .i64 r = v ∧ h' = h) := by
 unfold shutterref01_Word.m at H
 refine fn_of (args := [.string x0, .int .i64 x1]) (rs := [.tmp 4]) (N := 36) Tryd.func57 rfl rfl rfl rfl ?_
 refine st 16 [] ?_
 obtain ⟨s23, m26, HR25⟩ := bind_some H
 refine k_loop 0 (fun k' ρ h1 => ∃ (x21 : Int) (x22 : Int), shutterref01_Word.l1.m K x0 x1 k' x21 x22 = some s23 ∧ Fits [(0, .string x0), (1, .int .i64 x1), (5, .int .i64 x21), (6, .int .i64 x22)] ρ ∧ h = h1) (fun ρ h1 => ∃ (x24 : Int), x24 = s23 ∧ Fits [(5, .int .i64 x24)] ρ ∧ h = h1) K ⟨0, (w64 (8 * x1)), m26, ⟨by kernel_rfl, by kernel_rfl, by kernel_rfl, by kernel_rfl, trivial⟩, rfl⟩ ?_ rfl ?_
 ·clear HR25 m26 H
  rintro k' ρ h1 ⟨x21, x22, H, hf, rfl⟩
  cases k' with
  | zero => cases H
  | succ k =>
   rw [shutterref01_Word.l1.m] at H
   refine k_fits _ hf ?_ rfl
   refine st 7 [] (k_ite H (fun c27 H => ?_) (fun c27 H => ?_))
   ·obtain ⟨c28, H⟩ := guard_pos H
    obtain ⟨c29, H⟩ := guard_pos H
    refine st 9 [true] (k_val (.int .u8 (bt x0 x22)) (pr_indexStr (s := x0) (k := .i64) (i := x22) (by kernel_rfl) (by kernel_rfl) (by kernel_rfl) c28 c29) ?_)
    refine st 9 [] (k_val (.int .u8 (bt x0 x22)) (pr_indexStr (s := x0) (k := .i64) (i := x22) (by kernel_rfl) (by kernel_rfl) (by kernel_rfl) c28 c29) ?_)
    refine k_ite H (fun c30 H => ?_) (fun c30 H => ?_)
    ·refine st 5 [true] (k_val (.int .u8 (bt x0 x22)) (pr_indexStr (s := x0) (k := .i64) (i := x22) (by kernel_rfl) (by kernel_rfl) (by kernel_rfl) c28 c29) ?_)
     refine st 17 [] ?_
     exact k_endL ⟨k, Nat.lt_succ_self _, (w64 ((w64 (16 * x21)) + (w64 ((w64 ((bt x0 x22))) - 87)))), (w64 (x22 + 1)), H, ⟨by kernel_rfl, by kernel_rfl, by kernel_rfl, by kernel_rfl, trivial⟩, rfl⟩
    ·refine st 16 [false] ?_
     exact k_endL ⟨k, Nat.lt_succ_self _, (w64 ((w64 (16 * x21)) + (w64 ((w64 ((bt x0 x22))) - 48)))), (w64 (x22 + 1)), H, ⟨by kernel_rfl, by kernel_rfl, by kernel_rfl, by kernel_rfl, trivial⟩, rfl⟩
   ·refine st 2 [false] ?_
    refine k_out rfl ?_
    obtain rfl := Option.some.inj H
    exact xE ⟨x21, rfl, ⟨by kernel_rfl, trivial⟩, rfl⟩
 ·rintro ρ h1 ⟨x24, rfl, hf, rfl⟩
  have H := HR25
  try dsimp only at H
  refine k_fits _ hf ?_ rfl
  refine st 5 [] ?_
  refine k_retQ ?_
  obtain rfl := Option.some.inj H
  exact ⟨_, by kernel_rfl, rfl, rfl⟩

/-! shutter/shutterref01.Fill -/
def shutterref01_Fill.l1.m (K : Nat) : Nat → (List Int) → Option ((List Int))
  | 0, _ => none
  | k + 1, x39 => (if (Int.tmod (x39.length : Int) 64) = 56 then (some (x39)) else ((app x39 [0]).bind fun l55 => (shutterref01_Fill.l1.m K k l55)))
def shutterref01_Fill.l2.m (K : Nat) (x0 : (List Int)) : Nat → (List Int) → Int → Option ((List Int))
  | 0, _, _ => none
  | k + 1, x60, x65 => (if x65 < 8 then (if 0 ≤ (IntKind.u64.wrap ((w64 (56 - (w64 (8 * x65)))))) then ((app x60 [(IntKind.u8.wrap ((bAnd .i64 (shr .i64 (w64 (8 * (x0.length : Int))) (IntKind.u64.wrap ((w64 (56 - (w64 (8 * x65))))))) 255)))]).bind fun l78 => (shutterref01_Fill.l2.m K x0 k l78 (w64 (x65 + 1)))) else none) else (some (x60)))
def shutterref01_Fill.m (K : Nat) (x0 : (List Int)) : Option (List Int) :=
  ((app [] x0).bind fun l27 => ((app l27 [128]).bind fun l34 => ((shutterref01_Fill.l1.m K K l34).bind fun x45 => ((shutterref01_Fill.l2.m K x0 K x45 0).bind fun x67 => (some x67)))))

theorem shutterref01_Fill.calls {B I : Gh} {h : Heap} {K : Nat} {x0 : (List Int)} {a21 : Option Addr} {p22 : Nat} {n23 : Nat} {r : (List Int)} (H : shutterref01_Fill.m K x0 = some r)  :
    Fc Tryd.prog 58 #[.slice a21 n23 p22] [rR (tInt .u8) .b a21 p22 n23 x0] B I h (fun v L => ∃ (a83 : Option Addr) (p84 : Nat) (n85 : Nat), v = .slice a83 n85 p84 ∧ L = [rO (tInt .u8) .i a83 p84 n85 r]) := by
 refine fc_of fun E hs => ?_
 unfold shutterref01_Fill.m at H
 obtain rfl := hs.nR d0
 refine fn_of (args := [.slice a21 x0.length p22]) (rs := [.tmp 2]) (N := 37) Tryd.func58 rfl rfl rfl rfl ?_
 refine st 6 [] (k_op (nS (e := 5) hs .i (tInt .u8) ([] : List Int) [] 1 (.int .u8 0) (Reps.int (I := (Cl.G .i E.B I)) (k := .u8) (l := [])) ?_))
 intro b25 h hs
 obtain ⟨l27, m28, H⟩ := bind_some H
 refine st 1 [] (k_op (aO (e := 5) (bytes := 1) hs ((hs.sR d1).flat flat_int) m28 ?_))
 intro a29 p30 h hs
 refine k_op (nS (e := 5) hs .i (tInt .u8) ([128] : List Int) [.int .u8 128] 1 (.int .u8 0) (Reps.int (I := (Cl.G .i E.B I)) (k := .u8) (l := [128])) ?_)
 intro b32 h hs
 replace hs := (hs.f d1)
 obtain ⟨l34, m35, H⟩ := bind_some H
 refine k_op (aO (e := 5) (bytes := 1) hs (hs.sO d1) m35 ?_)
 intro a36 p37 h hs
 refine st 4 [] ?_
 obtain ⟨s44, m51, HR50⟩ := bind_some H
 refine k_loop 0 (fun k' ρ h => ∃ (x39 : List Int) (a40 : Option Addr) (p41 : Nat) (n42 : Nat) (I : Gh), shutterref01_Fill.l1.m K k' x39 = some s44 ∧ Fits [(0, .slice a21 x0.length p22), (3, .slice a40 n42 p41)] ρ ∧ St E [rR (tInt .u8) .b a21 p22 x0.length x0, rO (tInt .u8) .i a40 p41 n42 x39] I h) (fun ρ h => ∃ (x45 : List Int) (a46 : Option Addr) (p47 : Nat) (n48 : Nat) (I : Gh), x45 = s44 ∧ Fits [(0, .slice a21 x0.length p22), (3, .slice a46 n48 p47)] ρ ∧ St E [rR (tInt .u8) .b a21 p22 x0.length x0, rO (tInt .u8) .i a46 p47 n48 x45] I h) K ⟨l34, a36, p37, l34.length, I, m51, ⟨by kernel_rfl, by kernel_rfl, trivial⟩, hs.pk (.c d2 (.c d0 .n))⟩ ?_ rfl ?_
 ·clear HR50 m51 H
  rintro k' ρ h ⟨x39, a40, p41, n42, I, H, hf, hs⟩
  cases k' with
  | zero => cases H
  | succ k =>
   rw [shutterref01_Fill.l1.m] at H
   refine k_fits _ hf ?_ rfl
   obtain rfl := hs.nO d1
   refine st 6 [] (k_iteN H (fun c52 H => ?_) (fun c52 H => ?_))
   ·refine st 2 [false] ?_
    refine k_out rfl ?_
    obtain rfl := Option.some.inj H
    exact xE ⟨x39, a40, p41, x39.length, I, rfl, ⟨by kernel_rfl, by kernel_rfl, trivial⟩, hs.pk (.c d0 (.c d0 .n))⟩
   ·refine st 6 [true] (k_op (nS (e := 5) hs .i (tInt .u8) ([0] : List Int) [.int .u8 0] 1 (.int .u8 0) (Reps.int (I := (Cl.G .i E.B I)) (k := .u8) (l := [0])) ?_))
    intro b53 h hs
    replace hs := (hs.f d2)
    obtain ⟨l55, m56, H⟩ := bind_some H
    refine k_op (aO (e := 5) (bytes := 1) hs (hs.sO d1) m56 ?_)
    intro a57 p58 h hs
    refine st 3 [] ?_
    exact k_endL ⟨k, Nat.lt_succ_self _, l55, a57, p58, l55.length, I, H, ⟨by kernel_rfl, by kernel_rfl, trivial⟩, hs.pk (.c d2 (.c d0 .n))⟩
 ·rintro ρ h ⟨x45, a46, p47, n48, I, rfl, hf, hs⟩
  have H := HR50
  try dsimp only at H
  refine k_fits _ hf ?_ rfl
  obtain rfl := hs.nO d1
  refine st 13 [] ?_
  obtain ⟨s66, m73, HR72⟩ := bind_some H
  refine k_loop 2 (fun k' ρ h => ∃ (x60 : List Int) (x65 : Int) (a61 : Option Addr) (p62 : Nat) (n63 : Nat) (I : Gh), shutterref01_Fill.l2.m K x0 k' x60 x65 = some s66 ∧ Fits [(3, .slice a61 n63 p62), (4, .int .i64 (w64 (8 * (x0.length : Int)))), (5, .int .i64 x65)] ρ ∧ St E [rO (tInt .u8) .i a61 p62 n63 x60] I h) (fun ρ h => ∃ (x67 : List Int) (a68 : Option Addr) (p69 : Nat) (n70 : Nat) (I : Gh), x67 = s66 ∧ Fits [(3, .slice a68 n70 p69)] ρ ∧ St E [rO (tInt .u8) .i a68 p69 n70 x67] I h) K ⟨x45, 0, a46, p47, x45.length, I, m73, ⟨by kernel_rfl, by kernel_rfl, by kernel_rfl, trivial⟩, hs.pk (.c d1 .n)⟩ ?_ rfl ?_
  ·clear HR72 m73 H
   rintro k' ρ h ⟨x60, x65, a61, p62, n63, I, H, hf, hs⟩
   cases k' with
   | zero => cases H
   | succ k =>
    rw [shutterref01_Fill.l2.m] at H
    refine k_fits _ hf ?_ rfl
    obtain rfl := hs.nO d0
    refine st 4 [] (k_ite H (fun c74 H => ?_) (fun c74 H => ?_))
    ·obtain ⟨c75, H⟩ := guard_pos H
     refine st 12 [true] (k_val (.int .i64 (shr .i64 (w64 (8 * (x0.length : Int))) (IntKind.u64.wrap ((w64 (56 - (w64 (8 * x65)))))))) (pr_shr (k := .i64) (yk := .u64) (a := (w64 (8 * (x0.length : Int)))) (b := (IntKind.u64.wrap ((w64 (56 - (w64 (8 * x65))))))) (by kernel_rfl) (by kernel_rfl) c75) ?_)
     refine st 2 [] (k_op (nS (e := 5) hs .i (tInt .u8) ([(IntKind.u8.wrap ((bAnd .i64 (shr .i64 (w64 (8 * (x0.length : Int))) (IntKind.u64.wrap ((w64 (56 - (w64 (8 * x65))))))) 255)))] : List Int) [.int .u8 (IntKind.u8.wrap ((bAnd .i64 (shr .i64 (w64 (8 * (x0.length : Int))) (IntKind.u64.wrap ((w64 (56 - (w64 (8 * x65))))))) 255)))] 1 (.int .u8 0) (Reps.int (I := (Cl.G .i E.B I)) (k := .u8) (l := [(IntKind.u8.wrap ((bAnd .i64 (shr .i64 (w64 (8 * (x0.length : Int))) (IntKind.u64.wrap ((w64 (56 - (w64 (8 * x65))))))) 255)))])) ?_))
     intro b76 h hs
     replace hs := (hs.f d1)
     obtain ⟨l78, m79, H⟩ := bind_some H
     refine k_op (aO (e := 5) (bytes := 1) hs (hs.sO d1) m79 ?_)
     intro a80 p81 h hs
     refine st 8 [] ?_
     exact k_endL ⟨k, Nat.lt_succ_self _, l78, (w64 (x65 + 1)), a80, p81, l78.length, I, H, ⟨by kernel_rfl, by kernel_rfl, by kernel_rfl, trivial⟩, hs.pk (.c d0 .n)⟩
    ·refine st 2 [false] ?_
     refine k_out rfl ?_
     obtain rfl := Option.some.inj H
     exact xE ⟨x60, a61, p62, x60.length, I, rfl, ⟨by kernel_rfl, trivial⟩, hs.pk (.c d0 .n)⟩
  ·rintro ρ h ⟨x67, a68, p69, n70, I, rfl, hf, hs⟩
   have H := HR72
   try dsimp only at H
   refine k_fits _ hf ?_ rfl
   obtain rfl := hs.nO d0
   refine st 5 [] ?_
   refine k_retQ ?_
   obtain rfl := Option.some.inj H
   exact ⟨_, by kernel_rfl, I, _, ⟨a68, p69, x67.length, rfl, rfl⟩, hs.pk (.c d0 .n)⟩

/-! shutter/shutterref01.both -/
def shutterref01_both.m (x0 : Int) (x1 : Int) : Option Int :=
  (some (bAnd .i64 x0 x1))

theorem shutterref01_both.calls {x0 : Int} {x1 : Int} {h : Heap} {r : Int} (H : shutterref01_both.m x0 x1 = some r)   :
    Ret Tryd.prog 64 #[.int .i64 x0, .int .i64 x1] h (fun v h' => .int .i64 r = v ∧ h' = h) := by
 unfold shutterref01_both.m at H
 refine fn_of (args := [.int .i64 x0, .int .i64 x1]) (rs := [.tmp 4]) (N := 8) Tryd.func64 rfl rfl rfl rfl ?_
 refine st 11 [] ?_
 refine k_retQ ?_
 obtain rfl := Option.some.inj H
 exact ⟨_, by kernel_rfl, rfl, rfl⟩

/-! shutter/shutterref01.turn -/
def shutterref01_turn.m (x0 : Int) (x1 : Int) : Option Int :=
  (if 0 ≤ (IntKind.u64.wrap (x1)) then (if 0 ≤ (IntKind.u64.wrap ((w64 (32 - x1)))) then (some (bAnd .i64 (bOr .i64 (shr .i64 x0 (IntKind.u64.wrap (x1))) (shl .i64 x0 (IntKind.u64.wrap ((w64 (32 - x1)))))) 4294967295)) else none) else none)

theorem shutterref01_turn.calls {x0 : Int} {x1 : Int} {h : Heap} {r : Int} (H : shutterref01_turn.m x0 x1 = some r)   :
    Ret Tryd.prog 63 #[.int .i64 x0, .int .i64 x1] h (fun v h' => .int .i64 r = v ∧ h' = h) := by
 unfold shutterref01_turn.m at H
 refine fn_of (args := [.int .i64 x0, .int .i64 x1]) (rs := [.tmp 4]) (N := 16) Tryd.func63 rfl rfl rfl rfl ?_
 obtain ⟨c21, H⟩ := guard_pos H
 refine st 9 [] (k_val (.int .i64 (shr .i64 x0 (IntKind.u64.wrap (x1)))) (pr_shr (k := .i64) (yk := .u64) (a := x0) (b := (IntKind.u64.wrap (x1))) (by kernel_rfl) (by kernel_rfl) c21) ?_)
 obtain ⟨c22, H⟩ := guard_pos H
 refine st 4 [] (k_val (.int .i64 (shl .i64 x0 (IntKind.u64.wrap ((w64 (32 - x1)))))) (pr_shl (k := .i64) (yk := .u64) (a := x0) (b := (IntKind.u64.wrap ((w64 (32 - x1))))) (by kernel_rfl) (by kernel_rfl) c22) ?_)
 refine st 4 [] ?_
 refine k_retQ ?_
 obtain rfl := Option.some.inj H
 exact ⟨_, by kernel_rfl, rfl, rfl⟩

/-! shutter/shutterref01.Block -/
def shutterref01_Block.l1.m (K : Nat) (x1 : (List Int)) : Nat → (List Int) → Int → Option ((List Int))
  | 0, _, _ => none
  | k + 1, x28, x33 => (if x33 < 64 then (letJ (α := Bool → Option ((List Int))) (fun (x44 : Bool) => (bif x44 then (if 0 ≤ (w64 (4 * x33)) then (if (w64 (4 * x33)) < (x1.length : Int) then (if 0 ≤ (w64 ((w64 (4 * x33)) + 1)) then (if (w64 ((w64 (4 * x33)) + 1)) < (x1.length : Int) then (if 0 ≤ (w64 ((w64 (4 * x33)) + 2)) then (if (w64 ((w64 (4 * x33)) + 2)) < (x1.length : Int) then (if 0 ≤ (w64 ((w64 (4 * x33)) + 3)) then (if (w64 ((w64 (4 * x33)) + 3)) < (x1.length : Int) then ((app x28 [(w64 ((w64 ((w64 ((w64 (16777216 * (w64 ((at_ x1 (w64 (4 * x33))))))) + (w64 (65536 * (w64 ((at_ x1 (w64 ((w64 (4 * x33)) + 1))))))))) + (w64 (256 * (w64 ((at_ x1 (w64 ((w64 (4 * x33)) + 2))))))))) + (w64 ((at_ x1 (w64 ((w64 (4 * x33)) + 3)))))))]).bind fun l56 => (shutterref01_Block.l1.m K x1 k l56 (w64 (x33 + 1)))) else none) else none) else none) else none) else none) else none) else none) else none) else (if 0 ≤ (w64 (x33 - 15)) then (if (w64 (x33 - 15)) < (x28.length : Int) then (if 0 ≤ (w64 (x33 - 2)) then (if (w64 (x33 - 2)) < (x28.length : Int) then ((shutterref01_turn.m (at_ x28 (w64 (x33 - 15))) 7).bind fun t65 => ((shutterref01_turn.m (at_ x28 (w64 (x33 - 15))) 18).bind fun t66 => ((shutterref01_turn.m (at_ x28 (w64 (x33 - 2))) 17).bind fun t67 => ((shutterref01_turn.m (at_ x28 (w64 (x33 - 2))) 19).bind fun t68 => (if 0 ≤ (w64 (x33 - 7)) then (if (w64 (x33 - 7)) < (x28.length : Int) then (if 0 ≤ (w64 (x33 - 16)) then (if (w64 (x33 - 16)) < (x28.length : Int) then ((app x28 [(Int.tmod (w64 ((w64 ((w64 ((bXor .i64 (bXor .i64 t67 t68) (shr .i64 (at_ x28 (w64 (x33 - 2))) 10)) + (at_ x28 (w64 (x33 - 7))))) + (bXor .i64 (bXor .i64 t65 t66) (shr .i64 (at_ x28 (w64 (x33 - 15))) 3)))) + (at_ x28 (w64 (x33 - 16))))) 4294967296)]).bind fun l75 => (shutterref01_Block.l1.m K x1 k l75 (w64 (x33 + 1)))) else none) else none) else none) else none))))) else none) else none) else none) else none))) fun (j45 : Bool → Option ((List Int))) => (if x33 < 16 then (j45 true) else (j45 false))) else (some (x28)))
def shutterref01_Block.l2.m (K : Nat) (x35 : List Int) : Nat → Int → (List Int) → Option ((List Int))
  | 0, _, _ => none
  | k + 1, x82, x84 => (if x82 < 64 then ((shutterref01_turn.m (at_ x84 4) 6).bind fun t91 => ((shutterref01_turn.m (at_ x84 4) 11).bind fun t92 => ((shutterref01_turn.m (at_ x84 4) 25).bind fun t93 => ((shutterref01_both.m (at_ x84 4) (at_ x84 5)).bind fun t94 => ((shutterref01_both.m (w64 (4294967295 - (at_ x84 4))) (at_ x84 6)).bind fun t95 => (if 0 ≤ x82 then (if x82 < (x35.length : Int) then ((shutterref01_Word.m K (⟨#[52, 50, 56, 97, 50, 102, 57, 56, 55, 49, 51, 55, 52, 52, 57, 49, 98, 53, 99, 48, 102, 98, 99, 102, 101, 57, 98, 53, 100, 98, 97, 53, 51, 57, 53, 54, 99, 50, 53, 98, 53, 57, 102, 49, 49, 49, 102, 49, 57, 50, 51, 102, 56, 50, 97, 52, 97, 98, 49, 99, 53, 101, 100, 53, 100, 56, 48, 55, 97, 97, 57, 56, 49, 50, 56, 51, 53, 98, 48, 49, 50, 52, 51, 49, 56, 53, 98, 101, 53, 53, 48, 99, 55, 100, 99, 51, 55, 50, 98, 101, 53, 100, 55, 52, 56, 48, 100, 101, 98, 49, 102, 101, 57, 98, 100, 99, 48, 54, 97, 55, 99, 49, 57, 98, 102, 49, 55, 52, 101, 52, 57, 98, 54, 57, 99, 49, 101, 102, 98, 101, 52, 55, 56, 54, 48, 102, 99, 49, 57, 100, 99, 54, 50, 52, 48, 99, 97, 49, 99, 99, 50, 100, 101, 57, 50, 99, 54, 102, 52, 97, 55, 52, 56, 52, 97, 97, 53, 99, 98, 48, 97, 57, 100, 99, 55, 54, 102, 57, 56, 56, 100, 97, 57, 56, 51, 101, 53, 49, 53, 50, 97, 56, 51, 49, 99, 54, 54, 100, 98, 48, 48, 51, 50, 55, 99, 56, 98, 102, 53, 57, 55, 102, 99, 55, 99, 54, 101, 48, 48, 98, 102, 51, 100, 53, 97, 55, 57, 49, 52, 55, 48, 54, 99, 97, 54, 51, 53, 49, 49, 52, 50, 57, 50, 57, 54, 55, 50, 55, 98, 55, 48, 97, 56, 53, 50, 101, 49, 98, 50, 49, 51, 56, 52, 100, 50, 99, 54, 100, 102, 99, 53, 51, 51, 56, 48, 100, 49, 51, 54, 53, 48, 97, 55, 51, 53, 52, 55, 54, 54, 97, 48, 97, 98, 98, 56, 49, 99, 50, 99, 57, 50, 101, 57, 50, 55, 50, 50, 99, 56, 53, 97, 50, 98, 102, 101, 56, 97, 49, 97, 56, 49, 97, 54, 54, 52, 98, 99, 50, 52, 98, 56, 98, 55, 48, 99, 55, 54, 99, 53, 49, 97, 51, 100, 49, 57, 50, 101, 56, 49, 57, 100, 54, 57, 57, 48, 54, 50, 52, 102, 52, 48, 101, 51, 53, 56, 53, 49, 48, 54, 97, 97, 48, 55, 48, 49, 57, 97, 52, 99, 49, 49, 54, 49, 101, 51, 55, 54, 99, 48, 56, 50, 55, 52, 56, 55, 55, 52, 99, 51, 52, 98, 48, 98, 99, 98, 53, 51, 57, 49, 99, 48, 99, 98, 51, 52, 101, 100, 56, 97, 97, 52, 97, 53, 98, 57, 99, 99, 97, 52, 102, 54, 56, 50, 101, 54, 102, 102, 51, 55, 52, 56, 102, 56, 50, 101, 101, 55, 56, 97, 53, 54, 51, 54, 102, 56, 52, 99, 56, 55, 56, 49, 52, 56, 99, 99, 55, 48, 50, 48, 56, 57, 48, 98, 101, 102, 102, 102, 97, 97, 52, 53, 48, 54, 99, 101, 98, 98, 101, 102, 57, 97, 51, 102, 55, 99, 54, 55, 49, 55, 56, 102, 50]⟩ : ByteArray) x82).bind fun t98 => ((shutterref01_turn.m (at_ x84 0) 2).bind fun t99 => ((shutterref01_turn.m (at_ x84 0) 13).bind fun t100 => ((shutterref01_turn.m (at_ x84 0) 22).bind fun t101 => ((shutterref01_both.m (at_ x84 0) (at_ x84 1)).bind fun t102 => ((shutterref01_both.m (at_ x84 0) (at_ x84 2)).bind fun t103 => ((shutterref01_both.m (at_ x84 1) (at_ x84 2)).bind fun t104 => (shutterref01_Block.l2.m K x35 k (w64 (x82 + 1)) [(Int.tmod (w64 ((Int.tmod (w64 ((w64 ((w64 ((w64 ((at_ x84 7) + (bXor .i64 (bXor .i64 t91 t92) t93))) + (bXor .i64 t94 t95))) + t98)) + (at_ x35 x82))) 4294967296) + (Int.tmod (w64 ((bXor .i64 (bXor .i64 t99 t100) t101) + (bXor .i64 (bXor .i64 t102 t103) t104))) 4294967296))) 4294967296), (at_ x84 0), (at_ x84 1), (at_ x84 2), (Int.tmod (w64 ((at_ x84 3) + (Int.tmod (w64 ((w64 ((w64 ((w64 ((at_ x84 7) + (bXor .i64 (bXor .i64 t91 t92) t93))) + (bXor .i64 t94 t95))) + t98)) + (at_ x35 x82))) 4294967296))) 4294967296), (at_ x84 4), (at_ x84 5), (at_ x84 6)])))))))) else none) else none)))))) else (some (x84)))
def shutterref01_Block.l3.m (K : Nat) (x0 : (List Int)) : Nat → Int → (List Int) → Option ((List Int))
  | 0, _, _ => none
  | k + 1, x105, x107 => (if x105 < 8 then (if 0 ≤ x105 then (shutterref01_Block.l3.m K x0 k (w64 (x105 + 1)) (x107.set x105.toNat (Int.tmod (w64 ((at_ x107 x105) + (at_ x0 x105))) 4294967296))) else none) else (some (x107)))
def shutterref01_Block.m (K : Nat) (x0 : (List Int)) (x1 : (List Int)) : Option (List Int) :=
  ((shutterref01_Block.l1.m K x1 K [] 0).bind fun x35 => ((shutterref01_Block.l2.m K x35 K 0 x0).bind fun x87 => ((shutterref01_Block.l3.m K x0 K 0 x87).bind fun x110 => (some x110))))

theorem shutterref01_Block.calls {B I : Gh} {h : Heap} {K : Nat} {x0 : (List Int)} {x1 : (List Int)} {a22 : Option Addr} {p23 : Nat} {n24 : Nat} {r : (List Int)} (H : shutterref01_Block.m K x0 x1 = some r) (hl21 : List.length x0 = 8) :
    Fc Tryd.prog 59 #[.agg (List.map (Value.int .i64) x0).toArray, .slice a22 n24 p23] [rR (tInt .u8) .b a22 p23 n24 x1] B I h (fun v L => v = .agg (List.map (Value.int .i64) r).toArray ∧ L = [] ∧ List.length r = 8) := by
 refine fc_of fun E hs => ?_
 unfold shutterref01_Block.m at H
 obtain rfl := hs.nR d0
 refine fn_of2 (args := [.agg (List.map (Value.int .i64) x0).toArray, .slice a22 x1.length p23]) (rs := [.cell 4 111]) (N := 215) Tryd.func59 rfl rfl rfl rfl ?_
 refine st 2 [] (k_op (nB hs (List.map (Value.int .i64) x0) ?_))
 intro b26 h hs
 refine k_op (nA hs (List.map (Value.int .i64) (List.replicate 8 (0 : Int))) (.agg (List.map (Value.int .i64) (List.replicate 8 (0 : Int))).toArray) ?_)
 intro b27 h hs
 refine st 11 [] ?_
 obtain ⟨s34, m41, HR40⟩ := bind_some H
 refine k_loop 0 (fun k' ρ h => ∃ (x28 : List Int) (x33 : Int) (a29 : Option Addr) (p30 : Nat) (n31 : Nat) (I : Gh), shutterref01_Block.l1.m K x1 k' x28 x33 = some s34 ∧ Fits [(1, .slice a22 x1.length p23), (2, .pointer (some ⟨b26, 0, none⟩)), (4, .pointer (some ⟨b27, 0, none⟩)), (5, .slice a29 n31 p30), (6, .int .i64 x33)] ρ ∧ St E [rR (tInt .u8) .b a22 p23 x1.length x1, rO (tInt .i64) .i a29 p30 n31 x28, rB b26 (List.map (Value.int .i64) x0) 111, rB b27 (List.map (Value.int .i64) (List.replicate 8 (0 : Int))) 111] I h) (fun ρ h => ∃ (x35 : List Int) (a36 : Option Addr) (p37 : Nat) (n38 : Nat) (I : Gh), x35 = s34 ∧ Fits [(2, .pointer (some ⟨b26, 0, none⟩)), (4, .pointer (some ⟨b27, 0, none⟩)), (5, .slice a36 n38 p37)] ρ ∧ St E [rO (tInt .i64) .i a36 p37 n38 x35, rB b26 (List.map (Value.int .i64) x0) 111, rB b27 (List.map (Value.int .i64) (List.replicate 8 (0 : Int))) 111] I h) K ⟨[], 0, none, 0, 0, I, m41, ⟨by kernel_rfl, by kernel_rfl, by kernel_rfl, by kernel_rfl, by kernel_rfl, trivial⟩, hs.pk (.c d2 (.f imON (.c d1 (.c d0 .n))))⟩ ?_ rfl ?_
 ·clear HR40 m41 H
  rintro k' ρ h ⟨x28, x33, a29, p30, n31, I, H, hf, hs⟩
  cases k' with
  | zero => cases H
  | succ k =>
   rw [shutterref01_Block.l1.m] at H
   refine k_fits _ hf ?_ rfl
   obtain rfl := hs.nO d1
   refine st 4 [] (k_ite H (fun c42 H => ?_) (fun c42 H => ?_))
   ·refine st 7 [true] ?_
    obtain ⟨j45, e80, H⟩ := letJ_some H
    refine k_join (fun ρ h => ∃ (x44 : Bool) (I : Gh), j45 x44 = some s34 ∧ Fits [(1, .slice a22 x1.length p23), (2, .pointer (some ⟨b26, 0, none⟩)), (4, .pointer (some ⟨b27, 0, none⟩)), (5, .slice a29 x28.length p30), (6, .int .i64 x33), (27, .bool x44)] ρ ∧ St E [rR (tInt .u8) .b a22 p23 x1.length x1, rO (tInt .i64) .i a29 p30 x28.length x28, rB b26 (List.map (Value.int .i64) x0) 111, rB b27 (List.map (Value.int .i64) (List.replicate 8 (0 : Int))) 111] I h) ?_ ?_
    ·refine st 2 [] (k_ite H (fun c43 H => ?_) (fun c43 H => ?_))
     ·refine st 1 [] ?_
      exact k_end ⟨true, I, H, ⟨by kernel_rfl, by kernel_rfl, by kernel_rfl, by kernel_rfl, by kernel_rfl, by kernel_rfl, trivial⟩, hs.pk (.c d0 (.c d0 (.c d0 (.c d0 .n))))⟩
     ·refine st 1 [] ?_
      exact k_end ⟨false, I, H, ⟨by kernel_rfl, by kernel_rfl, by kernel_rfl, by kernel_rfl, by kernel_rfl, by kernel_rfl, trivial⟩, hs.pk (.c d0 (.c d0 (.c d0 (.c d0 .n))))⟩
    ·clear H
     rintro ρ h ⟨x44, I, H, hf, hs⟩
     refine k_fits _ hf ?_ rfl
     subst e80
     try dsimp only at H
     cases x44
     ·rw [cond_false] at H
      obtain ⟨c61, H⟩ := guard_pos H
      obtain ⟨c62, H⟩ := guard_pos H
      refine st 7 [false] (k_val (elemPtr a29 ((w64 (x33 - 15)).toNat * 1)) (pI (e := 3) (ik := .i64) (hs.sO d1) c61 c62) ?_)
      refine k_op (lC ((hs.sO d1).cell1 c61 c62) ?_)
      obtain ⟨c63, H⟩ := guard_pos H
      obtain ⟨c64, H⟩ := guard_pos H
      refine st 7 [] (k_val (elemPtr a29 ((w64 (x33 - 2)).toNat * 1)) (pI (e := 3) (ik := .i64) (hs.sO d1) c63 c64) ?_)
      refine k_op (lC ((hs.sO d1).cell1 c63 c64) ?_)
      refine st 5 [] (k_call H (fun _ m => shutterref01_turn.calls m) ?_)
      rintro t65 _ _ H ⟨rfl, rfl⟩
      refine st 1 [] (k_call H (fun _ m => shutterref01_turn.calls m) ?_)
      rintro t66 _ _ H ⟨rfl, rfl⟩
      refine st 9 [] (k_call H (fun _ m => shutterref01_turn.calls m) ?_)
      rintro t67 _ _ H ⟨rfl, rfl⟩
      refine st 1 [] (k_call H (fun _ m => shutterref01_turn.calls m) ?_)
      rintro t68 _ _ H ⟨rfl, rfl⟩
      refine st 6 [] ?_
      obtain ⟨hs0, bk0⟩ := hs.call tk0 (.c (qO d1) .n)
      have hs := hs0
      refine k_regD hs0 18 ?_
      obtain ⟨c69, H⟩ := guard_pos H
      obtain ⟨c70, H⟩ := guard_pos H
      refine aRun [0, 1, 2, 3, 4] 15 hs.keep ?_
      refine aP 5 (elemPtr a29 ((w64 (x33 - 7)).toNat * 1)) rfl (pI (e := 3) (ik := .i64) (hs.sR d0) c69 c70) hs.keep ?_
      refine aL 6 rfl hs.keep ((hs0.sR d0).cell1 c69 c70) (nmR hs0 d0 c69 c70) ?_
      obtain ⟨c71, H⟩ := guard_pos H
      obtain ⟨c72, H⟩ := guard_pos H
      refine aRun [7, 8, 9, 10, 11, 12] 7 hs.keep ?_
      refine aP 13 (elemPtr a29 ((w64 (x33 - 16)).toNat * 1)) rfl (pI (e := 3) (ik := .i64) (hs.sR d0) c71 c72) hs.keep ?_
      refine aL 14 rfl hs.keep ((hs0.sR d0).cell1 c71 c72) (nmR hs0 d0 c71 c72) ?_
      refine aRun [15, 16] 3 hs.keep ?_
      refine aO1 17 rfl (nS (e := 3) hs .i (tInt .i64) ([(Int.tmod (w64 ((w64 ((w64 ((bXor .i64 (bXor .i64 t67 t68) (shr .i64 (at_ x28 (w64 (x33 - 2))) 10)) + (at_ x28 (w64 (x33 - 7))))) + (bXor .i64 (bXor .i64 t65 t66) (shr .i64 (at_ x28 (w64 (x33 - 15))) 3)))) + (at_ x28 (w64 (x33 - 16))))) 4294967296)] : List Int) [.int .i64 (Int.tmod (w64 ((w64 ((w64 ((bXor .i64 (bXor .i64 t67 t68) (shr .i64 (at_ x28 (w64 (x33 - 2))) 10)) + (at_ x28 (w64 (x33 - 7))))) + (bXor .i64 (bXor .i64 t65 t66) (shr .i64 (at_ x28 (w64 (x33 - 15))) 3)))) + (at_ x28 (w64 (x33 - 16))))) 4294967296)] 1 (.int .i64 0) (Reps.int (I := (Cl.G .i E.B I)) (k := .i64) (l := [(Int.tmod (w64 ((w64 ((w64 ((bXor .i64 (bXor .i64 t67 t68) (shr .i64 (at_ x28 (w64 (x33 - 2))) 10)) + (at_ x28 (w64 (x33 - 7))))) + (bXor .i64 (bXor .i64 t65 t66) (shr .i64 (at_ x28 (w64 (x33 - 15))) 3)))) + (at_ x28 (w64 (x33 - 16))))) 4294967296)])) ?_)
      intro b73 h hs
      refine ⟨hs.keep, ?_⟩
      replace hs := hs.pk (.c d0 .n)
      replace hs := bk0 hs ct1 rfl
      replace hs := (hs.f d2)
      obtain ⟨l75, m76, H⟩ := bind_some H
      refine aOL 18 rfl (aO (e := 3) (bytes := 8) hs (hs.sO d1) m76 ?_)
      intro a77 p78 h hs
      refine aOL 19 rfl (owp_pure (.slice a77 l75.length p78) (by kernel_rfl) ?_)
      refine aEnd ?_
      refine st 6 [] ?_
      exact k_endL ⟨k, Nat.lt_succ_self _, l75, (w64 (x33 + 1)), a77, p78, l75.length, I, H, ⟨by kernel_rfl, by kernel_rfl, by kernel_rfl, by kernel_rfl, by kernel_rfl, trivial⟩, hs.pk (.c d2 (.c d0 (.c d1 (.c d1 .n))))⟩
     ·rw [cond_true] at H
      refine st 2 [true] ?_
      obtain ⟨hs0, bk0⟩ := hs.call tk0 (.c (qB d0) .n)
      have hs := hs0
      refine k_regD hs0 35 ?_
      obtain ⟨c46, H⟩ := guard_pos H
      obtain ⟨c47, H⟩ := guard_pos H
      refine aRun [0, 1, 2, 3] 33 hs.keep ?_
      refine aP 4 (elemPtr a22 ((w64 (4 * x33)).toNat * 1)) rfl (pI (e := 5) (ik := .i64) (hs.sR d0) c46 c47) hs.keep ?_
      refine aL 5 rfl hs.keep ((hs0.sR d0).cell1 c46 c47) (nmR hs0 d0 c46 c47) ?_
      obtain ⟨c48, H⟩ := guard_pos H
      obtain ⟨c49, H⟩ := guard_pos H
      refine aRun [6, 7, 8, 9, 10, 11] 25 hs.keep ?_
      refine aP 12 (elemPtr a22 ((w64 ((w64 (4 * x33)) + 1)).toNat * 1)) rfl (pI (e := 5) (ik := .i64) (hs.sR d0) c48 c49) hs.keep ?_
      refine aL 13 rfl hs.keep ((hs0.sR d0).cell1 c48 c49) (nmR hs0 d0 c48 c49) ?_
      obtain ⟨c50, H⟩ := guard_pos H
      obtain ⟨c51, H⟩ := guard_pos H
      refine aRun [14, 15, 16, 17, 18, 19, 20] 16 hs.keep ?_
      refine aP 21 (elemPtr a22 ((w64 ((w64 (4 * x33)) + 2)).toNat * 1)) rfl (pI (e := 5) (ik := .i64) (hs.sR d0) c50 c51) hs.keep ?_
      refine aL 22 rfl hs.keep ((hs0.sR d0).cell1 c50 c51) (nmR hs0 d0 c50 c51) ?_
      obtain ⟨c52, H⟩ := guard_pos H
      obtain ⟨c53, H⟩ := guard_pos H
      refine aRun [23, 24, 25, 26, 27, 28, 29] 7 hs.keep ?_
      refine aP 30 (elemPtr a22 ((w64 ((w64 (4 * x33)) + 3)).toNat * 1)) rfl (pI (e := 5) (ik := .i64) (hs.sR d0) c52 c53) hs.keep ?_
      refine aL 31 rfl hs.keep ((hs0.sR d0).cell1 c52 c53) (nmR hs0 d0 c52 c53) ?_
      refine aRun [32, 33] 3 hs.keep ?_
      refine aO1 34 rfl (nS (e := 3) hs .i (tInt .i64) ([(w64 ((w64 ((w64 ((w64 (16777216 * (w64 ((at_ x1 (w64 (4 * x33))))))) + (w64 (65536 * (w64 ((at_ x1 (w64 ((w64 (4 * x33)) + 1))))))))) + (w64 (256 * (w64 ((at_ x1 (w64 ((w64 (4 * x33)) + 2))))))))) + (w64 ((at_ x1 (w64 ((w64 (4 * x33)) + 3)))))))] : List Int) [.int .i64 (w64 ((w64 ((w64 ((w64 (16777216 * (w64 ((at_ x1 (w64 (4 * x33))))))) + (w64 (65536 * (w64 ((at_ x1 (w64 ((w64 (4 * x33)) + 1))))))))) + (w64 (256 * (w64 ((at_ x1 (w64 ((w64 (4 * x33)) + 2))))))))) + (w64 ((at_ x1 (w64 ((w64 (4 * x33)) + 3)))))))] 1 (.int .i64 0) (Reps.int (I := (Cl.G .i E.B I)) (k := .i64) (l := [(w64 ((w64 ((w64 ((w64 (16777216 * (w64 ((at_ x1 (w64 (4 * x33))))))) + (w64 (65536 * (w64 ((at_ x1 (w64 ((w64 (4 * x33)) + 1))))))))) + (w64 (256 * (w64 ((at_ x1 (w64 ((w64 (4 * x33)) + 2))))))))) + (w64 ((at_ x1 (w64 ((w64 (4 * x33)) + 3)))))))])) ?_)
      intro b54 h hs
      refine ⟨hs.keep, ?_⟩
      replace hs := hs.pk (.c d0 .n)
      replace hs := bk0 hs ct1 rfl
      replace hs := (hs.f d2)
      obtain ⟨l56, m57, H⟩ := bind_some H
      refine aOL 35 rfl (aO (e := 3) (bytes := 8) hs (hs.sO d1) m57 ?_)
      intro a58 p59 h hs
      refine aOL 36 rfl (owp_pure (.slice a58 l56.length p59) (by kernel_rfl) ?_)
      refine aEnd ?_
      refine st 6 [] ?_
      exact k_endL ⟨k, Nat.lt_succ_self _, l56, (w64 (x33 + 1)), a58, p59, l56.length, I, H, ⟨by kernel_rfl, by kernel_rfl, by kernel_rfl, by kernel_rfl, by kernel_rfl, trivial⟩, hs.pk (.c d2 (.c d0 (.c d1 (.c d1 .n))))⟩
   ·refine st 2 [false] ?_
    refine k_out rfl ?_
    obtain rfl := Option.some.inj H
    exact xE ⟨x28, a29, p30, x28.length, I, rfl, ⟨by kernel_rfl, by kernel_rfl, by kernel_rfl, trivial⟩, hs.pk (.c d1 (.c d1 (.c d1 .n)))⟩
 ·rintro ρ h ⟨x35, a36, p37, n38, I, rfl, hf, hs⟩
  have H := HR40
  try dsimp only at H
  refine k_fits _ hf ?_ rfl
  obtain rfl := hs.nO d0
  refine st 2 [] (k_op (lG ((hs.bl d1).arrSeg hl21) ?_))
  refine k_op (nA hs (List.map (Value.int .i64) (List.replicate 8 (0 : Int))) (.agg (List.map (Value.int .i64) (List.replicate 8 (0 : Int))).toArray) ?_)
  intro b81 h hs
  refine k_op (sAN (l2 := x0) hs (List.length_replicate (n := 8) (a := (0 : Int))) hl21 ?_)
  intro h hs
  refine st 7 [] ?_
  obtain ⟨s85, m89, HR88⟩ := bind_some H
  refine k_loop 2 (fun k' ρ h => ∃ (x82 : Int) (x84 : List Int) (I : Gh), shutterref01_Block.l2.m K x35 k' x82 x84 = some s85 ∧ Fits [(2, .pointer (some ⟨b26, 0, none⟩)), (4, .pointer (some ⟨b27, 0, none⟩)), (5, .slice a36 x35.length p37), (11, .pointer (some ⟨b81, 0, none⟩)), (12, .int .i64 x82)] ρ ∧ List.length x84 = 8 ∧ St E [rO (tInt .i64) .i a36 p37 x35.length x35, rB b26 (List.map (Value.int .i64) x0) 111, rB b27 (List.map (Value.int .i64) (List.replicate 8 (0 : Int))) 111, rB b81 (List.map (Value.int .i64) x84) 111] I h) (fun ρ h => ∃ (x87 : List Int) (I : Gh), x87 = s85 ∧ Fits [(2, .pointer (some ⟨b26, 0, none⟩)), (4, .pointer (some ⟨b27, 0, none⟩)), (11, .pointer (some ⟨b81, 0, none⟩))] ρ ∧ List.length x87 = 8 ∧ St E [rB b26 (List.map (Value.int .i64) x0) 111, rB b27 (List.map (Value.int .i64) (List.replicate 8 (0 : Int))) 111, rB b81 (List.map (Value.int .i64) x87) 111] I h) K ⟨0, x0, I, m89, ⟨by kernel_rfl, by kernel_rfl, by kernel_rfl, by kernel_rfl, by kernel_rfl, trivial⟩, hl21, hs.pk (.c d1 (.c d1 (.c d1 (.c d0 .n))))⟩ ?_ rfl ?_
  ·clear HR88 m89 H
   rintro k' ρ h ⟨x82, x84, I, H, hf, hl83, hs⟩
   cases k' with
   | zero => cases H
   | succ k =>
    rw [shutterref01_Block.l2.m] at H
    refine k_fits _ hf ?_ rfl
    refine st 4 [] (k_ite H (fun c90 H => ?_) (fun c90 H => ?_))
    ·refine st 7 [true] (k_val (elemPtr (some ⟨b81, 0, none⟩) ((4 : Int).toNat * 1)) (pr_indexArr (e := 3) (kk := .i64) (n := 8) (by kernel_rfl) (by kernel_rfl) (by kernel_rfl) (by kernel_rfl) (by decide) (by decide)) ?_)
     refine k_op (lC (((hs.bl d3)).arrCell (i := 4) hl83 (by decide) (by decide)) ?_)
     refine st 4 [] (k_val (elemPtr (some ⟨b81, 0, none⟩) ((0 : Int).toNat * 1)) (pr_indexArr (e := 3) (kk := .i64) (n := 8) (by kernel_rfl) (by kernel_rfl) (by kernel_rfl) (by kernel_rfl) (by decide) (by decide)) ?_)
     refine k_op (lC (((hs.bl d3)).arrCell (i := 0) hl83 (by decide) (by decide)) ?_)
     refine st 5 [] (k_call H (fun _ m => shutterref01_turn.calls m) ?_)
     rintro t91 _ _ H ⟨rfl, rfl⟩
     refine st 1 [] (k_call H (fun _ m => shutterref01_turn.calls m) ?_)
     rintro t92 _ _ H ⟨rfl, rfl⟩
     refine st 2 [] (k_call H (fun _ m => shutterref01_turn.calls m) ?_)
     rintro t93 _ _ H ⟨rfl, rfl⟩
     refine st 4 [] ?_
     obtain ⟨hs0, bk0⟩ := hs.call tk0 (.c (qL d3) .n)
     have hs := hs0
     refine k_regD hs0 11 ?_
     refine aRun [0] 10 hs.keep ?_
     refine aP 1 (elemPtr (some ⟨b81, 0, none⟩) ((5 : Int).toNat * 1)) rfl (pr_indexArr (e := 3) (kk := .i64) (n := 8) (by kernel_rfl) (by kernel_rfl) (by kernel_rfl) (by kernel_rfl) (by decide) (by decide)) hs.keep ?_
     refine aL 2 rfl hs.keep ((OwnB.mk (I := No) (hs0.g d0).1 (fun x => x)).arrCell (i := 5) hl83 (by decide) (by decide)) (nmL hs0 d0) ?_
     refine aRun [4, 5] 6 hs.keep ?_
     refine aP 6 (elemPtr (some ⟨b81, 0, none⟩) ((6 : Int).toNat * 1)) rfl (pr_indexArr (e := 3) (kk := .i64) (n := 8) (by kernel_rfl) (by kernel_rfl) (by kernel_rfl) (by kernel_rfl) (by decide) (by decide)) hs.keep ?_
     refine aL 7 rfl hs.keep ((OwnB.mk (I := No) (hs0.g d0).1 (fun x => x)).arrCell (i := 6) hl83 (by decide) (by decide)) (nmL hs0 d0) ?_
     refine aO1 3 rfl (o_call H (fun _ m => shutterref01_both.calls m) ?_)
     rintro t94 _ _ H ⟨rfl, rfl⟩
     refine ⟨hs.keep, ?_⟩
     refine aO1 8 rfl (o_call H (fun _ m => shutterref01_both.calls m) ?_)
     rintro t95 _ _ H ⟨rfl, rfl⟩
     refine ⟨hs.keep, ?_⟩
     refine aRun [9, 10] 0 hs.keep ?_
     replace hs := hs.pk .n
     replace hs := bk0 hs ct0 rfl
     refine aEnd ?_
     refine st 1 [] ?_
     obtain ⟨hs0, bk0⟩ := hs.call tk0 (.c (qL d3) (.c (qO d0) .n))
     have hs := hs0
     refine k_regD hs0 16 ?_
     refine aP 0 (elemPtr (some ⟨b81, 0, none⟩) ((7 : Int).toNat * 1)) rfl (pr_indexArr (e := 3) (kk := .i64) (n := 8) (by kernel_rfl) (by kernel_rfl) (by kernel_rfl) (by kernel_rfl) (by decide) (by decide)) hs.keep ?_
     refine aL 1 rfl hs.keep ((OwnB.mk (I := No) (hs0.g d0).1 (fun x => x)).arrCell (i := 7) hl83 (by decide) (by decide)) (nmL hs0 d0) ?_
     obtain ⟨c96, H⟩ := guard_pos H
     obtain ⟨c97, H⟩ := guard_pos H
     refine aRun [2, 3, 4, 5, 6, 9, 10] 7 hs.keep ?_
     refine aP 11 (elemPtr a36 (x82.toNat * 1)) rfl (pI (e := 3) (ik := .i64) (hs.sR d1) c96 c97) hs.keep ?_
     refine aL 12 rfl hs.keep ((hs0.sR d1).cell1 c96 c97) (nmR hs0 d1 c96 c97) ?_
     refine aO1 7 rfl (o_call H (fun _ m => shutterref01_Word.calls m) ?_)
     rintro t98 _ _ H ⟨rfl, rfl⟩
     refine ⟨hs.keep, ?_⟩
     refine aRun [8, 13, 14, 15] 0 hs.keep ?_
     replace hs := hs.pk .n
     replace hs := bk0 hs ct0 rfl
     refine aEnd ?_
     refine st 3 [] (k_call H (fun _ m => shutterref01_turn.calls m) ?_)
     rintro t99 _ _ H ⟨rfl, rfl⟩
     refine st 1 [] (k_call H (fun _ m => shutterref01_turn.calls m) ?_)
     rintro t100 _ _ H ⟨rfl, rfl⟩
     refine st 2 [] (k_call H (fun _ m => shutterref01_turn.calls m) ?_)
     rintro t101 _ _ H ⟨rfl, rfl⟩
     refine st 4 [] ?_
     obtain ⟨hs0, bk0⟩ := hs.call tk0 (.c (qL d3) .n)
     have hs := hs0
     refine k_regD hs0 16 ?_
     refine aRun [0] 15 hs.keep ?_
     refine aP 1 (elemPtr (some ⟨b81, 0, none⟩) ((1 : Int).toNat * 1)) rfl (pr_indexArr (e := 3) (kk := .i64) (n := 8) (by kernel_rfl) (by kernel_rfl) (by kernel_rfl) (by kernel_rfl) (by decide) (by decide)) hs.keep ?_
     refine aL 2 rfl hs.keep ((OwnB.mk (I := No) (hs0.g d0).1 (fun x => x)).arrCell (i := 1) hl83 (by decide) (by decide)) (nmL hs0 d0) ?_
     refine aRun [4] 12 hs.keep ?_
     refine aP 5 (elemPtr (some ⟨b81, 0, none⟩) ((2 : Int).toNat * 1)) rfl (pr_indexArr (e := 3) (kk := .i64) (n := 8) (by kernel_rfl) (by kernel_rfl) (by kernel_rfl) (by kernel_rfl) (by decide) (by decide)) hs.keep ?_
     refine aL 6 rfl hs.keep ((OwnB.mk (I := No) (hs0.g d0).1 (fun x => x)).arrCell (i := 2) hl83 (by decide) (by decide)) (nmL hs0 d0) ?_
     refine aP 9 (elemPtr (some ⟨b81, 0, none⟩) ((1 : Int).toNat * 1)) rfl (pr_indexArr (e := 3) (kk := .i64) (n := 8) (by kernel_rfl) (by kernel_rfl) (by kernel_rfl) (by kernel_rfl) (by decide) (by decide)) hs.keep ?_
     refine aL 10 rfl hs.keep ((OwnB.mk (I := No) (hs0.g d0).1 (fun x => x)).arrCell (i := 1) hl83 (by decide) (by decide)) (nmL hs0 d0) ?_
     refine aP 11 (elemPtr (some ⟨b81, 0, none⟩) ((2 : Int).toNat * 1)) rfl (pr_indexArr (e := 3) (kk := .i64) (n := 8) (by kernel_rfl) (by kernel_rfl) (by kernel_rfl) (by kernel_rfl) (by decide) (by decide)) hs.keep ?_
     refine aL 12 rfl hs.keep ((OwnB.mk (I := No) (hs0.g d0).1 (fun x => x)).arrCell (i := 2) hl83 (by decide) (by decide)) (nmL hs0 d0) ?_
     refine aO1 3 rfl (o_call H (fun _ m => shutterref01_both.calls m) ?_)
     rintro t102 _ _ H ⟨rfl, rfl⟩
     refine ⟨hs.keep, ?_⟩
     refine aO1 7 rfl (o_call H (fun _ m => shutterref01_both.calls m) ?_)
     rintro t103 _ _ H ⟨rfl, rfl⟩
     refine ⟨hs.keep, ?_⟩
     refine aRun [8] 3 hs.keep ?_
     refine aO1 13 rfl (o_call H (fun _ m => shutterref01_both.calls m) ?_)
     rintro t104 _ _ H ⟨rfl, rfl⟩
     refine ⟨hs.keep, ?_⟩
     refine aRun [14, 15] 0 hs.keep ?_
     replace hs := hs.pk .n
     replace hs := bk0 hs ct0 rfl
     refine aEnd ?_
     refine st 13 [] (k_val (elemPtr (some ⟨b81, 0, none⟩) ((0 : Int).toNat * 1)) (pr_indexArr (e := 3) (kk := .i64) (n := 8) (by kernel_rfl) (by kernel_rfl) (by kernel_rfl) (by kernel_rfl) (by decide) (by decide)) ?_)
     refine k_op (lC (((hs.bl d3)).arrCell (i := 0) hl83 (by decide) (by decide)) ?_)
     refine k_val (elemPtr (some ⟨b81, 0, none⟩) ((1 : Int).toNat * 1)) (pr_indexArr (e := 3) (kk := .i64) (n := 8) (by kernel_rfl) (by kernel_rfl) (by kernel_rfl) (by kernel_rfl) (by decide) (by decide)) ?_
     refine k_op (lC (((hs.bl d3)).arrCell (i := 1) hl83 (by decide) (by decide)) ?_)
     refine k_val (elemPtr (some ⟨b81, 0, none⟩) ((2 : Int).toNat * 1)) (pr_indexArr (e := 3) (kk := .i64) (n := 8) (by kernel_rfl) (by kernel_rfl) (by kernel_rfl) (by kernel_rfl) (by decide) (by decide)) ?_
     refine k_op (lC (((hs.bl d3)).arrCell (i := 2) hl83 (by decide) (by decide)) ?_)
     refine k_val (elemPtr (some ⟨b81, 0, none⟩) ((3 : Int).toNat * 1)) (pr_indexArr (e := 3) (kk := .i64) (n := 8) (by kernel_rfl) (by kernel_rfl) (by kernel_rfl) (by kernel_rfl) (by decide) (by decide)) ?_
     refine k_op (lC (((hs.bl d3)).arrCell (i := 3) hl83 (by decide) (by decide)) ?_)
     refine st 3 [] (k_val (elemPtr (some ⟨b81, 0, none⟩) ((4 : Int).toNat * 1)) (pr_indexArr (e := 3) (kk := .i64) (n := 8) (by kernel_rfl) (by kernel_rfl) (by kernel_rfl) (by kernel_rfl) (by decide) (by decide)) ?_)
     refine k_op (lC (((hs.bl d3)).arrCell (i := 4) hl83 (by decide) (by decide)) ?_)
     refine k_val (elemPtr (some ⟨b81, 0, none⟩) ((5 : Int).toNat * 1)) (pr_indexArr (e := 3) (kk := .i64) (n := 8) (by kernel_rfl) (by kernel_rfl) (by kernel_rfl) (by kernel_rfl) (by decide) (by decide)) ?_
     refine k_op (lC (((hs.bl d3)).arrCell (i := 5) hl83 (by decide) (by decide)) ?_)
     refine k_val (elemPtr (some ⟨b81, 0, none⟩) ((6 : Int).toNat * 1)) (pr_indexArr (e := 3) (kk := .i64) (n := 8) (by kernel_rfl) (by kernel_rfl) (by kernel_rfl) (by kernel_rfl) (by decide) (by decide)) ?_
     refine k_op (lC (((hs.bl d3)).arrCell (i := 6) hl83 (by decide) (by decide)) ?_)
     refine st 1 [] (k_op (sAN (l2 := [(Int.tmod (w64 ((Int.tmod (w64 ((w64 ((w64 ((w64 ((at_ x84 7) + (bXor .i64 (bXor .i64 t91 t92) t93))) + (bXor .i64 t94 t95))) + t98)) + (at_ x35 x82))) 4294967296) + (Int.tmod (w64 ((bXor .i64 (bXor .i64 t99 t100) t101) + (bXor .i64 (bXor .i64 t102 t103) t104))) 4294967296))) 4294967296), (at_ x84 0), (at_ x84 1), (at_ x84 2), (Int.tmod (w64 ((at_ x84 3) + (Int.tmod (w64 ((w64 ((w64 ((w64 ((at_ x84 7) + (bXor .i64 (bXor .i64 t91 t92) t93))) + (bXor .i64 t94 t95))) + t98)) + (at_ x35 x82))) 4294967296))) 4294967296), (at_ x84 4), (at_ x84 5), (at_ x84 6)]) (hs.f d3) hl83 rfl ?_))
     intro h hs
     refine st 7 [] ?_
     exact k_endL ⟨k, Nat.lt_succ_self _, (w64 (x82 + 1)), [(Int.tmod (w64 ((Int.tmod (w64 ((w64 ((w64 ((w64 ((at_ x84 7) + (bXor .i64 (bXor .i64 t91 t92) t93))) + (bXor .i64 t94 t95))) + t98)) + (at_ x35 x82))) 4294967296) + (Int.tmod (w64 ((bXor .i64 (bXor .i64 t99 t100) t101) + (bXor .i64 (bXor .i64 t102 t103) t104))) 4294967296))) 4294967296), (at_ x84 0), (at_ x84 1), (at_ x84 2), (Int.tmod (w64 ((at_ x84 3) + (Int.tmod (w64 ((w64 ((w64 ((w64 ((at_ x84 7) + (bXor .i64 (bXor .i64 t91 t92) t93))) + (bXor .i64 t94 t95))) + t98)) + (at_ x35 x82))) 4294967296))) 4294967296), (at_ x84 4), (at_ x84 5), (at_ x84 6)], I, H, ⟨by kernel_rfl, by kernel_rfl, by kernel_rfl, by kernel_rfl, by kernel_rfl, trivial⟩, rfl, hs.pk (.c d1 (.c d1 (.c d1 (.c d0 .n))))⟩
    ·refine st 2 [false] ?_
     refine k_out rfl ?_
     obtain rfl := Option.some.inj H
     exact xE ⟨x84, I, rfl, ⟨by kernel_rfl, by kernel_rfl, by kernel_rfl, trivial⟩, hl83, hs.pk (.c d1 (.c d1 (.c d1 .n)))⟩
  ·rintro ρ h ⟨x87, I, rfl, hf, hl86, hs⟩
   have H := HR88
   try dsimp only at H
   refine k_fits _ hf ?_ rfl
   refine st 6 [] ?_
   obtain ⟨s108, m112, HR111⟩ := bind_some H
   refine k_loop 4 (fun k' ρ h => ∃ (x105 : Int) (x107 : List Int) (I : Gh), shutterref01_Block.l3.m K x0 k' x105 x107 = some s108 ∧ Fits [(2, .pointer (some ⟨b26, 0, none⟩)), (4, .pointer (some ⟨b27, 0, none⟩)), (11, .pointer (some ⟨b81, 0, none⟩)), (21, .int .i64 x105)] ρ ∧ List.length x107 = 8 ∧ St E [rB b26 (List.map (Value.int .i64) x0) 111, rB b27 (List.map (Value.int .i64) (List.replicate 8 (0 : Int))) 111, rB b81 (List.map (Value.int .i64) x107) 111] I h) (fun ρ h => ∃ (x110 : List Int) (I : Gh), x110 = s108 ∧ Fits [(4, .pointer (some ⟨b27, 0, none⟩)), (11, .pointer (some ⟨b81, 0, none⟩))] ρ ∧ List.length x110 = 8 ∧ St E [rB b27 (List.map (Value.int .i64) (List.replicate 8 (0 : Int))) 111, rB b81 (List.map (Value.int .i64) x110) 111] I h) K ⟨0, x87, I, m112, ⟨by kernel_rfl, by kernel_rfl, by kernel_rfl, by kernel_rfl, trivial⟩, hl86, hs.pk (.c d0 (.c d0 (.c d0 .n)))⟩ ?_ rfl ?_
   ·clear HR111 m112 H
    rintro k' ρ h ⟨x105, x107, I, H, hf, hl106, hs⟩
    cases k' with
    | zero => cases H
    | succ k =>
     rw [shutterref01_Block.l3.m] at H
     refine k_fits _ hf ?_ rfl
     refine st 4 [] (k_ite H (fun c113 H => ?_) (fun c113 H => ?_))
     ·refine st 5 [true] ?_
      obtain ⟨hs0, bk0⟩ := hs.call tk0 (.c (qL d2) (.c (qL d0) .n))
      have hs := hs0
      refine k_regD hs0 10 ?_
      obtain ⟨c114, H⟩ := guard_pos H
      refine aRun [0, 1] 9 hs.keep ?_
      refine aP 2 (elemPtr (some ⟨b81, 0, none⟩) (x105.toNat * 1)) rfl (pr_indexArr (e := 3) (kk := .i64) (n := 8) (by kernel_rfl) (by kernel_rfl) (by kernel_rfl) (by kernel_rfl) c114 c113) hs.keep ?_
      refine aL 3 rfl hs.keep ((OwnB.mk (I := No) (hs0.g d0).1 (fun x => x)).arrCell (i := x105) hl106 c114 c113) (nmL hs0 d0) ?_
      refine aRun [4] 6 hs.keep ?_
      refine aP 5 (elemPtr (some ⟨b26, 0, none⟩) (x105.toNat * 1)) rfl (pr_indexArr (e := 3) (kk := .i64) (n := 8) (by kernel_rfl) (by kernel_rfl) (by kernel_rfl) (by kernel_rfl) c114 c113) hs.keep ?_
      refine aL 6 rfl hs.keep ((OwnB.mk (I := No) (hs0.g d1).1 (fun x => x)).arrCell (i := x105) hl21 c114 c113) (nmL hs0 d1) ?_
      refine aRun [7, 8] 2 hs.keep ?_
      refine aP 9 (elemPtr (some ⟨b81, 0, none⟩) (x105.toNat * 1)) rfl (pr_indexArr (e := 3) (kk := .i64) (n := 8) (by kernel_rfl) (by kernel_rfl) (by kernel_rfl) (by kernel_rfl) c114 c113) hs.keep ?_
      replace hs := hs.pk .n
      replace hs := bk0 hs ct0 rfl
      refine aOL 10 rfl (sA (hs.f d2) (Int.tmod (w64 ((at_ x107 x105) + (at_ x0 x105))) 4294967296) hl106 c114 c113 ?_)
      intro h hs
      refine aEnd ?_
      refine st 6 [] ?_
      exact k_endL ⟨k, Nat.lt_succ_self _, (w64 (x105 + 1)), (x107.set x105.toNat (Int.tmod (w64 ((at_ x107 x105) + (at_ x0 x105))) 4294967296)), I, H, ⟨by kernel_rfl, by kernel_rfl, by kernel_rfl, by kernel_rfl, trivial⟩, (len_set hl106), hs.pk (.c d1 (.c d1 (.c d0 .n)))⟩
     ·refine st 2 [false] ?_
      refine k_out rfl ?_
      obtain rfl := Option.some.inj H
      exact xE ⟨x107, I, rfl, ⟨by kernel_rfl, by kernel_rfl, trivial⟩, hl106, hs.pk (.c d1 (.c d1 .n))⟩
   ·rintro ρ h ⟨x110, I, rfl, hf, hl109, hs⟩
    have H := HR111
    try dsimp only at H
    refine k_fits _ hf ?_ rfl
    refine st 2 [] (k_op (lG ((hs.bl d1).arrSeg hl109) ?_))
    refine k_op (sAN (l2 := x110) hs (List.length_replicate (n := 8) (a := (0 : Int))) hl109 ?_)
    intro h hs
    refine st 1 [] ?_
    refine k_retQ ?_
    obtain rfl := Option.some.inj H
    exact ⟨[.agg (List.map (Value.int .i64) x110).toArray], (.cons (.agg (by kernel_rfl) (by kernel_rfl) (by kernel_rfl) ((hs.bl d0).arrSeg hl109)) .nil), I, _, ⟨rfl, rfl, hl109⟩, hs.pk .n⟩

/-! shutter/shutterref01.Of -/
def shutterref01_Of.l1.m (K : Nat) : Nat → Int → (List Int) → Option ((List Int))
  | 0, _, _ => none
  | k + 1, x27, x29 => (if x27 < 8 then ((shutterref01_Word.m K (⟨#[54, 97, 48, 57, 101, 54, 54, 55, 98, 98, 54, 55, 97, 101, 56, 53, 51, 99, 54, 101, 102, 51, 55, 50, 97, 53, 52, 102, 102, 53, 51, 97, 53, 49, 48, 101, 53, 50, 55, 102, 57, 98, 48, 53, 54, 56, 56, 99, 49, 102, 56, 51, 100, 57, 97, 98, 53, 98, 101, 48, 99, 100, 49, 57]⟩ : ByteArray) x27).bind fun t36 => (if 0 ≤ x27 then (shutterref01_Of.l1.m K k (w64 (x27 + 1)) (x29.set x27.toNat t36)) else none)) else (some (x29)))
def shutterref01_Of.l2.m (K : Nat) (t38 : (List Int)) : Nat → Int → (List Int) → Option ((List Int))
  | 0, _, _ => none
  | k + 1, x43, x45 => (if x43 < (t38.length : Int) then (if 0 ≤ x43 then (if x43 ≤ (w64 (x43 + 64)) then (if (w64 (x43 + 64)) ≤ (t38.length : Int) then ((shutterref01_Block.m K x45 (sub t38 x43 (w64 (x43 + 64)))).bind fun t55 => (shutterref01_Of.l2.m K t38 k (w64 (x43 + 64)) t55)) else none) else none) else none) else (some (x45)))
def shutterref01_Of.l3.m (K : Nat) (x48 : List Int) : Nat → Int → (List Int) → Option ((List Int))
  | 0, _, _ => none
  | k + 1, x58, x60 => (if x58 < 32 then (if 0 ≤ (w64 (Int.tdiv x58 4)) then (if (w64 (Int.tdiv x58 4)) < 8 then (if 0 ≤ (IntKind.u64.wrap ((w64 (24 - (w64 (8 * (Int.tmod x58 4))))))) then (if 0 ≤ x58 then (shutterref01_Of.l3.m K x48 k (w64 (x58 + 1)) (x60.set x58.toNat (IntKind.u8.wrap ((bAnd .i64 (shr .i64 (at_ x48 (w64 (Int.tdiv x58 4))) (IntKind.u64.wrap ((w64 (24 - (w64 (8 * (Int.tmod x58 4)))))))) 255))))) else none) else none) else none) else none) else (some (x60)))
def shutterref01_Of.m (K : Nat) (x0 : (List Int)) : Option (List Int) :=
  ((shutterref01_Of.l1.m K K 0 (List.replicate 8 (0 : Int))).bind fun x32 => ((shutterref01_Fill.m K x0).bind fun t38 => ((shutterref01_Of.l2.m K t38 K 0 x32).bind fun x48 => ((shutterref01_Of.l3.m K x48 K 0 (List.replicate 32 (0 : Int))).bind fun x63 => (some x63)))))

theorem shutterref01_Of.calls {B I : Gh} {h : Heap} {K : Nat} {x0 : (List Int)} {a21 : Option Addr} {p22 : Nat} {n23 : Nat} {r : (List Int)} (H : shutterref01_Of.m K x0 = some r)  :
    Fc Tryd.prog 51 #[.slice a21 n23 p22] [rR (tInt .u8) .b a21 p22 n23 x0] B I h (fun v L => v = .agg (List.map (Value.int .u8) r).toArray ∧ L = [] ∧ List.length r = 32) := by
 refine fc_of fun E hs => ?_
 unfold shutterref01_Of.m at H
 obtain rfl := hs.nR d0
 refine fn_of2 (args := [.slice a21 x0.length p22]) (rs := [.cell 2 72]) (N := 51) Tryd.func51 rfl rfl rfl rfl ?_
 refine st 2 [] (k_op (nA hs (List.map (Value.int .u8) (List.replicate 32 (0 : Int))) (.agg (List.map (Value.int .u8) (List.replicate 32 (0 : Int))).toArray) ?_))
 intro b25 h hs
 refine st 3 [] (k_op (nA hs (List.map (Value.int .i64) (List.replicate 8 (0 : Int))) (.agg (List.map (Value.int .i64) (List.replicate 8 (0 : Int))).toArray) ?_))
 intro b26 h hs
 refine st 7 [] ?_
 obtain ⟨s30, m34, HR33⟩ := bind_some H
 refine k_loop 0 (fun k' ρ h => ∃ (x27 : Int) (x29 : List Int) (I : Gh), shutterref01_Of.l1.m K k' x27 x29 = some s30 ∧ Fits [(0, .slice a21 x0.length p22), (2, .pointer (some ⟨b25, 0, none⟩)), (3, .pointer (some ⟨b26, 0, none⟩)), (4, .int .i64 x27)] ρ ∧ List.length x29 = 8 ∧ St E [rR (tInt .u8) .b a21 p22 x0.length x0, rB b25 (List.map (Value.int .u8) (List.replicate 32 (0 : Int))) 72, rB b26 (List.map (Value.int .i64) x29) 111] I h) (fun ρ h => ∃ (x32 : List Int) (I : Gh), x32 = s30 ∧ Fits [(0, .slice a21 x0.length p22), (2, .pointer (some ⟨b25, 0, none⟩)), (3, .pointer (some ⟨b26, 0, none⟩))] ρ ∧ List.length x32 = 8 ∧ St E [rR (tInt .u8) .b a21 p22 x0.length x0, rB b25 (List.map (Value.int .u8) (List.replicate 32 (0 : Int))) 72, rB b26 (List.map (Value.int .i64) x32) 111] I h) K ⟨0, (List.replicate 8 (0 : Int)), I, m34, ⟨by kernel_rfl, by kernel_rfl, by kernel_rfl, by kernel_rfl, trivial⟩, (List.length_replicate (n := 8) (a := (0 : Int))), hs.pk (.c d2 (.c d1 (.c d0 .n)))⟩ ?_ rfl ?_
 ·clear HR33 m34 H
  rintro k' ρ h ⟨x27, x29, I, H, hf, hl28, hs⟩
  cases k' with
  | zero => cases H
  | succ k =>
   rw [shutterref01_Of.l1.m] at H
   refine k_fits _ hf ?_ rfl
   refine st 4 [] (k_ite H (fun c35 H => ?_) (fun c35 H => ?_))
   ·refine st 8 [true] (k_call H (fun _ m => shutterref01_Word.calls m) ?_)
    rintro t36 _ _ H ⟨rfl, rfl⟩
    obtain ⟨c37, H⟩ := guard_pos H
    refine k_val (elemPtr (some ⟨b26, 0, none⟩) (x27.toNat * 1)) (pr_indexArr (e := 3) (kk := .i64) (n := 8) (by kernel_rfl) (by kernel_rfl) (by kernel_rfl) (by kernel_rfl) c37 c35) ?_
    refine k_op (sA (hs.f d2) t36 hl28 c37 c35 ?_)
    intro h hs
    refine st 7 [] ?_
    exact k_endL ⟨k, Nat.lt_succ_self _, (w64 (x27 + 1)), (x29.set x27.toNat t36), I, H, ⟨by kernel_rfl, by kernel_rfl, by kernel_rfl, by kernel_rfl, trivial⟩, (len_set hl28), hs.pk (.c d1 (.c d1 (.c d0 .n)))⟩
   ·refine st 2 [false] ?_
    refine k_out rfl ?_
    obtain rfl := Option.some.inj H
    exact xE ⟨x29, I, rfl, ⟨by kernel_rfl, by kernel_rfl, by kernel_rfl, trivial⟩, hl28, hs.pk (.c d0 (.c d0 (.c d0 .n)))⟩
 ·rintro ρ h ⟨x32, I, rfl, hf, hl31, hs⟩
  have H := HR33
  try dsimp only at H
  refine k_fits _ hf ?_ rfl
  obtain ⟨hk, bk⟩ := hs.call tk0 (.c (qB d0) .n)
  refine st 3 [] (k_call H (fun _ m => shutterref01_Fill.calls m hk) ?_)
  rintro t38 _ h H ⟨I, _, ⟨a39, p40, n41, rfl, rfl⟩, hk⟩
  replace hs := bk hk ct1 rfl
  obtain rfl := hs.nO d0
  refine st 8 [] ?_
  obtain ⟨s46, m50, HR49⟩ := bind_some H
  refine k_loop 2 (fun k' ρ h => ∃ (x43 : Int) (x45 : List Int) (I : Gh), shutterref01_Of.l2.m K t38 k' x43 x45 = some s46 ∧ Fits [(2, .pointer (some ⟨b25, 0, none⟩)), (3, .pointer (some ⟨b26, 0, none⟩)), (5, .slice a39 t38.length p40), (6, .int .i64 x43)] ρ ∧ List.length x45 = 8 ∧ St E [rO (tInt .u8) .i a39 p40 t38.length t38, rB b25 (List.map (Value.int .u8) (List.replicate 32 (0 : Int))) 72, rB b26 (List.map (Value.int .i64) x45) 111] I h) (fun ρ h => ∃ (x48 : List Int) (I : Gh), x48 = s46 ∧ Fits [(2, .pointer (some ⟨b25, 0, none⟩)), (3, .pointer (some ⟨b26, 0, none⟩))] ρ ∧ List.length x48 = 8 ∧ St E [rB b25 (List.map (Value.int .u8) (List.replicate 32 (0 : Int))) 72, rB b26 (List.map (Value.int .i64) x48) 111] I h) K ⟨0, x32, I, m50, ⟨by kernel_rfl, by kernel_rfl, by kernel_rfl, by kernel_rfl, trivial⟩, hl31, hs.pk (.c d0 (.c d1 (.c d1 .n)))⟩ ?_ rfl ?_
  ·clear HR49 m50 H
   rintro k' ρ h ⟨x43, x45, I, H, hf, hl44, hs⟩
   cases k' with
   | zero => cases H
   | succ k =>
    rw [shutterref01_Of.l2.m] at H
    refine k_fits _ hf ?_ rfl
    refine st 6 [] (k_ite H (fun c51 H => ?_) (fun c51 H => ?_))
    ·refine st 5 [true] ?_
     obtain ⟨hs0, bk0⟩ := hs.call tk0 (.c (qL d2) (.c (qO d0) .n))
     have hs := hs0
     refine k_regD hs0 7 ?_
     refine aG 0 rfl hs.keep (by have q := (hs0.g d0).1; exact (OwnB.arrSeg (I := No) ⟨q, fun x => x⟩ hl44)) (nmL hs0 d0) ?_
     obtain ⟨c52, H⟩ := guard_pos H
     obtain ⟨c53, H⟩ := guard_pos H
     obtain ⟨c54, H⟩ := guard_pos H
     refine aRun [1, 2, 3, 4] 3 hs.keep ?_
     refine aP 5 (.slice (slA a39 p40 (Int.toNat x43) 1) ((sub t38 x43 (w64 (x43 + 64))).length) (p40 - Int.toNat x43)) rfl (pS (e := 5) (k1 := .i64) (k2 := .i64) (hs.sR d1) c52 c53 c54) hs.keep ?_
     obtain ⟨hk, bk⟩ := hs.call tk0 (.c (qP (qB d1) (lo := x43) (hi := (w64 (x43 + 64))) c52 c53 c54) .n)
     refine aO1 6 rfl (o_call H (fun _ m => shutterref01_Block.calls m hl44 hk) ?_)
     rintro t55 _ h H ⟨I, _, ⟨rfl, rfl, hl56⟩, hk⟩
     replace hs := bk hk ct0 rfl
     refine ⟨hs.keep, ?_⟩
     replace hs := hs.pk .n
     replace hs := bk0 hs ct0 rfl
     refine aOL 7 rfl (sAN (l2 := t55) (hs.f d2) hl44 hl56 ?_)
     intro h hs
     refine aEnd ?_
     refine st 6 [] ?_
     exact k_endL ⟨k, Nat.lt_succ_self _, (w64 (x43 + 64)), t55, I, H, ⟨by kernel_rfl, by kernel_rfl, by kernel_rfl, by kernel_rfl, trivial⟩, hl56, hs.pk (.c d1 (.c d1 (.c d0 .n)))⟩
    ·refine st 2 [false] ?_
     refine k_out rfl ?_
     obtain rfl := Option.some.inj H
     exact xE ⟨x45, I, rfl, ⟨by kernel_rfl, by kernel_rfl, trivial⟩, hl44, hs.pk (.c d1 (.c d1 .n))⟩
  ·rintro ρ h ⟨x48, I, rfl, hf, hl47, hs⟩
   have H := HR49
   try dsimp only at H
   refine k_fits _ hf ?_ rfl
   refine st 2 [] (k_op (nA hs (List.map (Value.int .u8) (List.replicate 32 (0 : Int))) (.agg (List.map (Value.int .u8) (List.replicate 32 (0 : Int))).toArray) ?_))
   intro b57 h hs
   refine st 7 [] ?_
   obtain ⟨s61, m65, HR64⟩ := bind_some H
   refine k_loop 4 (fun k' ρ h => ∃ (x58 : Int) (x60 : List Int) (I : Gh), shutterref01_Of.l3.m K x48 k' x58 x60 = some s61 ∧ Fits [(2, .pointer (some ⟨b25, 0, none⟩)), (3, .pointer (some ⟨b26, 0, none⟩)), (7, .pointer (some ⟨b57, 0, none⟩)), (8, .int .i64 x58)] ρ ∧ List.length x60 = 32 ∧ St E [rB b25 (List.map (Value.int .u8) (List.replicate 32 (0 : Int))) 72, rB b26 (List.map (Value.int .i64) x48) 111, rB b57 (List.map (Value.int .u8) x60) 72] I h) (fun ρ h => ∃ (x63 : List Int) (I : Gh), x63 = s61 ∧ Fits [(2, .pointer (some ⟨b25, 0, none⟩)), (7, .pointer (some ⟨b57, 0, none⟩))] ρ ∧ List.length x63 = 32 ∧ St E [rB b25 (List.map (Value.int .u8) (List.replicate 32 (0 : Int))) 72, rB b57 (List.map (Value.int .u8) x63) 72] I h) K ⟨0, (List.replicate 32 (0 : Int)), I, m65, ⟨by kernel_rfl, by kernel_rfl, by kernel_rfl, by kernel_rfl, trivial⟩, (List.length_replicate (n := 32) (a := (0 : Int))), hs.pk (.c d1 (.c d1 (.c d0 .n)))⟩ ?_ rfl ?_
   ·clear HR64 m65 H
    rintro k' ρ h ⟨x58, x60, I, H, hf, hl59, hs⟩
    cases k' with
    | zero => cases H
    | succ k =>
     rw [shutterref01_Of.l3.m] at H
     refine k_fits _ hf ?_ rfl
     refine st 4 [] (k_ite H (fun c66 H => ?_) (fun c66 H => ?_))
     ·obtain ⟨c67, H⟩ := guard_pos H
      obtain ⟨c68, H⟩ := guard_pos H
      refine st 9 [true] (k_val (elemPtr (some ⟨b26, 0, none⟩) ((w64 (Int.tdiv x58 4)).toNat * 1)) (pr_indexArr (e := 3) (kk := .i64) (n := 8) (by kernel_rfl) (by kernel_rfl) (by kernel_rfl) (by kernel_rfl) c67 c68) ?_)
      refine k_op (lC (((hs.bl d1)).arrCell (i := (w64 (Int.tdiv x58 4))) hl47 c67 c68) ?_)
      obtain ⟨c69, H⟩ := guard_pos H
      refine st 5 [] (k_val (.int .i64 (shr .i64 (at_ x48 (w64 (Int.tdiv x58 4))) (IntKind.u64.wrap ((w64 (24 - (w64 (8 * (Int.tmod x58 4))))))))) (pr_shr (k := .i64) (yk := .u64) (a := (at_ x48 (w64 (Int.tdiv x58 4)))) (b := (IntKind.u64.wrap ((w64 (24 - (w64 (8 * (Int.tmod x58 4)))))))) (by kernel_rfl) (by kernel_rfl) c69) ?_)
      obtain ⟨c70, H⟩ := guard_pos H
      refine st 2 [] (k_val (elemPtr (some ⟨b57, 0, none⟩) (x58.toNat * 1)) (pr_indexArr (e := 5) (kk := .i64) (n := 32) (by kernel_rfl) (by kernel_rfl) (by kernel_rfl) (by kernel_rfl) c70 c66) ?_)
      refine k_op (sA (hs.f d2) (IntKind.u8.wrap ((bAnd .i64 (shr .i64 (at_ x48 (w64 (Int.tdiv x58 4))) (IntKind.u64.wrap ((w64 (24 - (w64 (8 * (Int.tmod x58 4)))))))) 255))) hl59 c70 c66 ?_)
      intro h hs
      refine st 7 [] ?_
      exact k_endL ⟨k, Nat.lt_succ_self _, (w64 (x58 + 1)), (x60.set x58.toNat (IntKind.u8.wrap ((bAnd .i64 (shr .i64 (at_ x48 (w64 (Int.tdiv x58 4))) (IntKind.u64.wrap ((w64 (24 - (w64 (8 * (Int.tmod x58 4)))))))) 255)))), I, H, ⟨by kernel_rfl, by kernel_rfl, by kernel_rfl, by kernel_rfl, trivial⟩, (len_set hl59), hs.pk (.c d1 (.c d1 (.c d0 .n)))⟩
     ·refine st 2 [false] ?_
      refine k_out rfl ?_
      obtain rfl := Option.some.inj H
      exact xE ⟨x60, I, rfl, ⟨by kernel_rfl, by kernel_rfl, trivial⟩, hl59, hs.pk (.c d0 (.c d1 .n))⟩
   ·rintro ρ h ⟨x63, I, rfl, hf, hl62, hs⟩
    have H := HR64
    try dsimp only at H
    refine k_fits _ hf ?_ rfl
    refine st 2 [] (k_op (lG ((hs.bl d1).arrSeg hl62) ?_))
    refine k_op (sAN (l2 := x63) hs (List.length_replicate (n := 32) (a := (0 : Int))) hl62 ?_)
    intro h hs
    refine st 1 [] ?_
    refine k_retQ ?_
    obtain rfl := Option.some.inj H
    exact ⟨[.agg (List.map (Value.int .u8) x63).toArray], (.cons (.agg (by kernel_rfl) (by kernel_rfl) (by kernel_rfl) ((hs.bl d0).arrSeg hl62)) .nil), I, _, ⟨rfl, rfl, hl62⟩, hs.pk .n⟩

end Go.Proofs.YtgljelhakcallaaDoor.Sx
