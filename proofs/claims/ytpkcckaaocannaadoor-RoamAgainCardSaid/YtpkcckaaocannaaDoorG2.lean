/- Printed walks, part 2: each function's model, and that the code comes to it. -/
import Derived.Test.YtpkcckaaocannaaDoorProg
import Derived.Test.YtpkcckaaocannaaDoorV4
import Derived.Test.YtpkcckaaocannaaDoorV5
import Derived.Test.YtpkcckaaocannaaDoorG1
namespace Go.Proofs.YtpkcckaaocannaaDoor.Sx
open Go
set_option maxRecDepth 100000
set_option maxHeartbeats 4000000

/-! shutter/mac.Code -/
def mac_Code.m (K : Nat) (x0 : (List Int)) (x1 : (List (List Int))) : Option (List Int) :=
  ((slices_Clone_byte.m x1).bind fun t30 => ((mac_turned.m K x0 54).bind fun t35 => ((slices_Insert_byte.m t30 0 [t35]).bind fun t42 => ((hash_Of.m K t42).bind fun t47 => ((mac_turned.m K x0 92).bind fun t51 => ((hash_Of.m K [t51, t47]).bind fun t58 => (some t58)))))))

theorem mac_Code.calls {B I : Gh} {h : Heap} {K : Nat} {x0 : (List Int)} {x1 : (List (List Int))} {a21 : Option Addr} {p22 : Nat} {n23 : Nat} {a25 : Option Addr} {p26 : Nat} {n27 : Nat} {r : (List Int)} (H : mac_Code.m K x0 x1 = some r)  :
    Fc Tryd.prog 90 #[.slice a21 n23 p22, .slice a25 n27 p26] [rR (tInt .u8) .b a21 p22 n23 x0, rR (tSl (tInt .u8)) .i a25 p26 n27 x1] B I h (fun v L => v = .agg (List.map (Value.int .u8) r).toArray ∧ L = [] ∧ List.length r = 32) := by
 refine fc_of fun E hs => ?_
 unfold mac_Code.m at H
 obtain rfl := hs.nR d0
 obtain rfl := hs.nR d1
 refine fn_of2 (args := [.slice a21 x0.length p22, .slice a25 x1.length p26]) (rs := [.cell 4 130]) (N := 18) Tryd.func90 rfl rfl rfl rfl ?_
 refine st 2 [] (k_op (nA hs (List.map (Value.int .u8) (List.replicate 32 (0 : Int))) (.agg (List.map (Value.int .u8) (List.replicate 32 (0 : Int))).toArray) ?_))
 intro b29 h hs
 obtain ⟨hk, bk⟩ := hs.call tk0 (.c (qK d2) .n)
 refine st 4 [] (k_call H (fun _ m => slices_Clone_byte.calls m hk) ?_)
 rintro t30 _ h H ⟨I, _, ⟨a31, p32, n33, rfl, rfl⟩, hk⟩
 replace hs := bk hk ct1 rfl
 obtain rfl := hs.nO d0
 obtain ⟨hk, bk⟩ := hs.call tk0 (.c (qB d2) .n)
 refine st 1 [] (k_call H (fun _ m => mac_turned.calls m hk) ?_)
 rintro t35 _ h H ⟨I, _, ⟨a36, p37, n38, rfl, rfl⟩, hk⟩
 replace hs := bk hk ct1 rfl
 obtain rfl := hs.nO d0
 obtain ⟨I, hs⟩ := hs.fO
 refine k_op (nS (e := 47) hs .i (tSl (tInt .u8)) ([t35] : List (List Int)) [.slice a36 t35.length p37] 1 (.slice none 0 0) (Reps.cons (T := (tSl (tInt .u8))) (c := [.slice a36 t35.length p37]) (x := t35) ⟨_, _, _, rfl, (hs.g d0)⟩ (.nil : Reps (tSl (tInt .u8)) (Cl.G .i E.B I) h [] [])) ?_)
 intro b40 h hs
 obtain ⟨hk, bk⟩ := (hs.f d2).call tk2 .n
 refine k_call H (fun _ m => slices_Insert_byte.calls m hk) ?_
 rintro t42 _ h H ⟨I, _, ⟨a43, p44, n45, rfl, rfl⟩, hk⟩
 replace hs := bk hk ct1 rfl
 obtain rfl := hs.nO d0
 obtain ⟨hk, bk⟩ := hs.call tk0 (.c (qO d0) .n)
 refine k_call H (fun _ m => hash_Of.calls m hk) ?_
 rintro t47 _ h H ⟨I, _, ⟨rfl, rfl, hl48⟩, hk⟩
 replace hs := bk hk ct0 rfl
 refine k_op (nA hs (List.map (Value.int .u8) (List.replicate 32 (0 : Int))) (.agg (List.map (Value.int .u8) (List.replicate 32 (0 : Int))).toArray) ?_)
 intro b49 h hs
 refine k_op (sAN (l2 := t47) hs (List.length_replicate (n := 32) (a := (0 : Int))) hl48 ?_)
 intro h hs
 refine st 2 [] ?_
 obtain ⟨I, hs⟩ := hs.fA hl48
 obtain ⟨hs0, bk0⟩ := hs.call tk0 (.c (qK d0) (.c (qB d4) .n))
 have hs := hs0
 refine k_regD hs0 5 ?_
 refine aRun [0, 2] 4 hs.keep ?_
 obtain ⟨hk, bk⟩ := hs.call tk0 (.c (qB d1) .n)
 refine aO1 1 rfl (o_call H (fun _ m => mac_turned.calls m hk) ?_)
 rintro t51 _ h H ⟨I, _, ⟨a52, p53, n54, rfl, rfl⟩, hk⟩
 replace hs := bk hk ct1 rfl
 obtain rfl := hs.nO d0
 refine ⟨hs.keep, ?_⟩
 obtain ⟨I, hs⟩ := hs.fO
 refine aO1 3 rfl (nS (e := 47) hs .i (tSl (tInt .u8)) ([t51, t47] : List (List Int)) [.slice a52 t51.length p53, .slice (some ⟨b49, 0, none⟩) 32 32] 1 (.slice none 0 0) (Reps.cons (T := (tSl (tInt .u8))) (c := [.slice a52 t51.length p53]) (x := t51) ⟨_, _, _, rfl, (hs.g d0)⟩ (Reps.cons (T := (tSl (tInt .u8))) (c := [.slice (some ⟨b49, 0, none⟩) 32 32]) (x := t47) ⟨_, _, _, rfl, (hs.g d1)⟩ (.nil : Reps (tSl (tInt .u8)) (Cl.G .i E.B I) h [] []))) ?_)
 intro b56 h hs
 refine ⟨hs.keep, ?_⟩
 obtain ⟨hk, bk⟩ := hs.call tk0 (.c (qO d0) .n)
 refine aO1 4 rfl (o_call H (fun _ m => hash_Of.calls m hk) ?_)
 rintro t58 _ h H ⟨I, _, ⟨rfl, rfl, hl59⟩, hk⟩
 replace hs := bk hk ct0 rfl
 refine ⟨hs.keep, ?_⟩
 replace hs := hs.pk (.c d0 (.c d0 .n))
 replace hs := bk0 hs ct2 rfl
 refine aOL 5 rfl (sAN (l2 := t58) (hs.f d5) (List.length_replicate (n := 32) (a := (0 : Int))) hl59 ?_)
 intro h hs
 refine aEnd ?_
 refine k_retQ ?_
 obtain rfl := Option.some.inj H
 exact ⟨[.agg (List.map (Value.int .u8) t58).toArray], (.cons (.agg (by kernel_rfl) (by kernel_rfl) (by kernel_rfl) ((hs.bl d0).arrSeg hl59)) .nil), I, _, ⟨rfl, rfl, hl59⟩, hs.pk .n⟩

/-! shutter/mac.Tag -/
def mac_Tag.m (K : Nat) (x0 : (List Int)) (x1 : (List (List Int))) : Option (List Int) :=
  ((mac_Code.m K x0 x1).bind fun t30 => (some (sub t30 0 16)))

theorem mac_Tag.calls {B I : Gh} {h : Heap} {K : Nat} {x0 : (List Int)} {x1 : (List (List Int))} {a21 : Option Addr} {p22 : Nat} {n23 : Nat} {a25 : Option Addr} {p26 : Nat} {n27 : Nat} {r : (List Int)} (H : mac_Tag.m K x0 x1 = some r)  :
    Fc Tryd.prog 76 #[.slice a21 n23 p22, .slice a25 n27 p26] [rR (tInt .u8) .b a21 p22 n23 x0, rR (tSl (tInt .u8)) .i a25 p26 n27 x1] B I h (fun v L => v = .agg (List.map (Value.int .u8) r).toArray ∧ L = [] ∧ List.length r = 16) := by
 refine fc_of fun E hs => ?_
 unfold mac_Tag.m at H
 obtain rfl := hs.nR d0
 obtain rfl := hs.nR d1
 refine fn_of2 (args := [.slice a21 x0.length p22, .slice a25 x1.length p26]) (rs := [.cell 4 132]) (N := 12) Tryd.func76 rfl rfl rfl rfl ?_
 refine st 2 [] (k_op (nA hs (List.map (Value.int .u8) (List.replicate 16 (0 : Int))) (.agg (List.map (Value.int .u8) (List.replicate 16 (0 : Int))).toArray) ?_))
 intro b29 h hs
 obtain ⟨hk, bk⟩ := hs.call tk0 (.c (qB d1) (.c (qK d2) .n))
 refine st 5 [] (k_call H (fun _ m => mac_Code.calls m hk) ?_)
 rintro t30 _ h H ⟨I, _, ⟨rfl, rfl, hl31⟩, hk⟩
 replace hs := bk hk ct0 rfl
 refine k_op (nA hs (List.map (Value.int .u8) (List.replicate 32 (0 : Int))) (.agg (List.map (Value.int .u8) (List.replicate 32 (0 : Int))).toArray) ?_)
 intro b32 h hs
 refine k_op (sAN (l2 := t30) hs (List.length_replicate (n := 32) (a := (0 : Int))) hl31 ?_)
 intro h hs
 obtain ⟨I, hs⟩ := hs.fA hl31
 replace hs := hs.part d0 (lo := 0) (hi := 16) (Int.le_refl 0) (by decide) (by rw [hl31]; decide)
 refine st 3 [] (k_val (.slice (slA (some ⟨b32, 0, none⟩) 32 (Int.toNat (0 : Int)) 1) ((sub t30 0 16).length) (32 - Int.toNat (0 : Int))) (pSA (lo := 0) (hi := 16) 16 (by rw [hl31]; decide)) ?_)
 refine k_val (elemPtr (slA (some ⟨b32, 0, none⟩) 32 (Int.toNat (0 : Int)) 1) 0) (pAP (m := 16) (et := 5) (hs.sR d0) (sub_len (lo := 0) (hi := 16) 16 (by rw [hl31]; decide)) (by decide)) ?_
 refine k_op (lG ((hs.sR d0).segInt (sub_len (lo := 0) (hi := 16) 16 (by rw [hl31]; decide)) (by decide)) ?_)
 refine k_op (sAN (l2 := (sub t30 0 16)) (hs.f d2) (List.length_replicate (n := 16) (a := (0 : Int))) (sub_len (lo := 0) (hi := 16) 16 (by rw [hl31]; decide)) ?_)
 intro h hs
 refine st 1 [] ?_
 refine k_retQ ?_
 obtain rfl := Option.some.inj H
 exact ⟨[.agg (List.map (Value.int .u8) (sub t30 0 16)).toArray], (.cons (.agg (by kernel_rfl) (by kernel_rfl) (by kernel_rfl) ((hs.bl d0).arrSeg (sub_len (lo := 0) (hi := 16) 16 (by rw [hl31]; decide)))) .nil), I, _, ⟨rfl, rfl, (sub_len (lo := 0) (hi := 16) 16 (by rw [hl31]; decide))⟩, hs.pk .n⟩

/-! shutter/mac.Equal -/
def mac_Equal.l1.m (K : Nat) (x0 : (List Int)) (x1 : (List Int)) : Nat → Int → Int → Option (Int)
  | 0, _, _ => none
  | k + 1, x32, x33 => (letJ (α := Bool → Option (Int)) (fun (x39 : Bool) => (bif x39 then (if 0 ≤ x33 then (if x33 < (x0.length : Int) then (if x33 < (x1.length : Int) then (mac_Equal.l1.m K x0 x1 k (bOr .u8 x32 (bXor .u8 (at_ x0 x33) (at_ x1 x33))) (w64 (x33 + 1))) else none) else none) else none) else (some (x32)))) fun (j40 : Bool → Option (Int)) => (if x33 < (x0.length : Int) then (j40 true) else (j40 false)))
def mac_Equal.m (K : Nat) (x0 : (List Int)) (x1 : (List Int)) : Option Bool :=
  (if (x0.length : Int) = (x1.length : Int) then ((mac_Equal.l1.m K x0 x1 K 0 0).bind fun x35 => (some (x35 == 0))) else (some false))

theorem mac_Equal.calls {G : Gh} {K : Nat} {x0 : (List Int)} {x1 : (List Int)} {a21 : Option Addr} {p22 : Nat} {n23 : Nat} {a25 : Option Addr} {p26 : Nat} {n27 : Nat} {h : Heap} {r : Bool} (H : mac_Equal.m K x0 x1 = some r)  (s29 : Sn (tInt .u8) G h a21 p22 n23 x0) (s30 : Sn (tInt .u8) G h a25 p26 n27 x1) :
    Ret Tryd.prog 77 #[.slice a21 n23 p22, .slice a25 n27 p26] h (fun v h' => .bool r = v ∧ h' = h) := by
 unfold mac_Equal.m at H
 obtain rfl := s29.len.symm
 obtain rfl := s30.len.symm
 refine fn_of (args := [.slice a21 x0.length p22, .slice a25 x1.length p26]) (rs := [.tmp 4]) (N := 31) Tryd.func77 rfl rfl rfl rfl ?_
 refine st 11 [] (k_iteN H (fun c31 H => ?_) (fun c31 H => ?_))
 ·refine st 15 [false] ?_
  obtain ⟨s34, m37, HR36⟩ := bind_some H
  refine k_loop 0 (fun k' ρ h1 => ∃ (x32 : Int) (x33 : Int), mac_Equal.l1.m K x0 x1 k' x32 x33 = some s34 ∧ Fits [(1, .slice a25 x1.length p26), (5, .int .u8 x32), (13, .slice a21 x0.length p22), (14, .int .i64 (x0.length : Int)), (15, .int .i64 x33)] ρ ∧ h = h1) (fun ρ h1 => ∃ (x35 : Int), x35 = s34 ∧ Fits [(5, .int .u8 x35)] ρ ∧ h = h1) K ⟨0, 0, m37, ⟨by kernel_rfl, by kernel_rfl, by kernel_rfl, by kernel_rfl, by kernel_rfl, trivial⟩, rfl⟩ ?_ rfl ?_
  ·clear HR36 m37 H
   rintro k' ρ h1 ⟨x32, x33, H, hf, rfl⟩
   cases k' with
   | zero => cases H
   | succ k =>
    rw [mac_Equal.l1.m] at H
    refine k_fits _ hf ?_ rfl
    refine st 1 [] ?_
    obtain ⟨j40, e44, H⟩ := letJ_some H
    refine k_join (fun ρ h1 => ∃ (x39 : Bool), j40 x39 = some s34 ∧ Fits [(1, .slice a25 x1.length p26), (5, .int .u8 x32), (13, .slice a21 x0.length p22), (14, .int .i64 (x0.length : Int)), (15, .int .i64 x33), (16, .bool x39)] ρ ∧ h = h1) ?_ ?_
    ·refine st 1 [] (k_ite H (fun c38 H => ?_) (fun c38 H => ?_))
     ·refine st 1 [] ?_
      exact k_end ⟨true, H, ⟨by kernel_rfl, by kernel_rfl, by kernel_rfl, by kernel_rfl, by kernel_rfl, by kernel_rfl, trivial⟩, rfl⟩
     ·refine st 1 [] ?_
      exact k_end ⟨false, H, ⟨by kernel_rfl, by kernel_rfl, by kernel_rfl, by kernel_rfl, by kernel_rfl, by kernel_rfl, trivial⟩, rfl⟩
    ·clear H
     rintro ρ h1 ⟨x39, H, hf, rfl⟩
     refine k_fits _ hf ?_ rfl
     subst e44
     try dsimp only at H
     cases x39
     ·rw [cond_false] at H
      refine st 2 [false] ?_
      refine k_out rfl ?_
      obtain rfl := Option.some.inj H
      exact xE ⟨x32, rfl, ⟨by kernel_rfl, trivial⟩, rfl⟩
     ·rw [cond_true] at H
      obtain ⟨c41, H⟩ := guard_pos H
      obtain ⟨c42, H⟩ := guard_pos H
      refine st 8 [true] (k_val (elemPtr a21 (x33.toNat * 1)) (pI (e := 5) (ik := .i64) s29 c41 c42) ?_)
      refine k_op (lC (s29.cell1 c41 c42) ?_)
      obtain ⟨c43, H⟩ := guard_pos H
      refine st 8 [] (k_val (elemPtr a25 (x33.toNat * 1)) (pI (e := 5) (ik := .i64) s30 c41 c43) ?_)
      refine k_op (lC (s30.cell1 c41 c43) ?_)
      refine st 9 [] ?_
      exact k_endL ⟨k, Nat.lt_succ_self _, (bOr .u8 x32 (bXor .u8 (at_ x0 x33) (at_ x1 x33))), (w64 (x33 + 1)), H, ⟨by kernel_rfl, by kernel_rfl, by kernel_rfl, by kernel_rfl, by kernel_rfl, trivial⟩, rfl⟩
  ·rintro ρ h1 ⟨x35, rfl, hf, rfl⟩
   have H := HR36
   try dsimp only at H
   refine k_fits _ hf ?_ rfl
   refine st 6 [] ?_
   refine k_retQ ?_
   obtain rfl := Option.some.inj H
   exact ⟨_, by kernel_rfl, rfl, rfl⟩
 ·refine st 6 [true] ?_
  refine k_retQ ?_
  obtain rfl := Option.some.inj H
  exact ⟨_, by kernel_rfl, rfl, rfl⟩

/-! shutter/frame.sided -/
def frame_sided.m (x0 : Int) : Option Bool :=
  (if x0 = 0 then (some true) else (some (x0 == 1)))

theorem frame_sided.calls {x0 : Int} {h : Heap} {r : Bool} (H : frame_sided.m x0 = some r)   :
    Ret Tryd.prog 78 #[.int .i64 x0] h (fun v h' => .bool r = v ∧ h' = h) := by
 unfold frame_sided.m at H
 refine fn_of (args := [.int .i64 x0]) (rs := [.tmp 2]) (N := 9) Tryd.func78 rfl rfl rfl rfl ?_
 refine st 7 [] (k_ite H (fun c21 H => ?_) (fun c21 H => ?_))
 ·refine st 6 [] ?_
  refine k_retQ ?_
  obtain rfl := Option.some.inj H
  exact ⟨_, by kernel_rfl, rfl, rfl⟩
 ·refine st 6 [] ?_
  refine k_retQ ?_
  obtain rfl := Option.some.inj H
  exact ⟨_, by kernel_rfl, rfl, rfl⟩

/-! shutter/frame.Open -/
def frame_Open.l1.m (K : Nat) (x2 : (List Int)) : Nat → Int → Int → Option (Int)
  | 0, _, _ => none
  | k + 1, x49, x50 => (if x50 < ((sub (sub x2 0 (w64 ((x2.length : Int) - 16))) 2 10).length : Int) then (if 0 ≤ x50 then (frame_Open.l1.m K x2 k (bOr .u64 (shl .u64 x49 8) (IntKind.u64.wrap ((at_ (sub (sub x2 0 (w64 ((x2.length : Int) - 16))) 2 10) x50)))) (w64 (x50 + 1))) else none) else (some (x49)))
def frame_Open.m (K : Nat) (x0 : (List Int)) (x1 : Int) (x2 : (List Int)) : Option (api_Frame × GoErr) :=
  (letJ (α := Bool → Option (api_Frame × GoErr)) (fun (x31 : Bool) => (bif x31 then (some ((⟨0, 0, []⟩ : api_Frame), (GoErr.no 2))) else (if (x2.length : Int) > 512 then (some ((⟨0, 0, []⟩ : api_Frame), (GoErr.no 6))) else (if 0 ≤ (w64 ((x2.length : Int) - 16)) then (if (w64 ((x2.length : Int) - 16)) ≤ (x2.length : Int) then ((mac_Tag.m K x0 [(sub x2 0 (w64 ((x2.length : Int) - 16)))]).bind fun t39 => ((mac_Equal.m K t39 (sub x2 (w64 ((x2.length : Int) - 16)) (x2.length : Int))).bind fun t43 => bif t43 then (if 0 < ((sub x2 0 (w64 ((x2.length : Int) - 16))).length : Int) then (if (at_ (sub x2 0 (w64 ((x2.length : Int) - 16))) 0) = 1 then (if 1 < ((sub x2 0 (w64 ((x2.length : Int) - 16))).length : Int) then (if (w64 ((at_ (sub x2 0 (w64 ((x2.length : Int) - 16))) 1))) = x1 then (if 10 ≤ ((sub x2 0 (w64 ((x2.length : Int) - 16))).length : Int) then ((frame_Open.l1.m K x2 K 0 0).bind fun x52 => (if x52 < 1 then (some ((⟨0, 0, []⟩ : api_Frame), (GoErr.no 1))) else (if x52 > 4611686018427387904 then (some ((⟨0, 0, []⟩ : api_Frame), (GoErr.no 1))) else ((frame_sided.m x1).bind fun t59 => bif t59 then ((slices_Clone_bytes.m (sub (sub x2 0 (w64 ((x2.length : Int) - 16))) 10 ((sub x2 0 (w64 ((x2.length : Int) - 16))).length : Int))).bind fun t60 => (some ((⟨x1, (w64 (x52)), t60⟩ : api_Frame), GoErr.nil))) else (some ((⟨0, 0, []⟩ : api_Frame), (GoErr.no 1))))))) else none) else (some ((⟨0, 0, []⟩ : api_Frame), (GoErr.no 13)))) else none) else (some ((⟨0, 0, []⟩ : api_Frame), (GoErr.no 13)))) else none) else (some ((⟨0, 0, []⟩ : api_Frame), (GoErr.no 11))))) else none) else none)))) fun (j32 : Bool → Option (api_Frame × GoErr)) => (if (x2.length : Int) < 26 then (j32 true) else (j32 false)))

theorem frame_Open.calls {B I : Gh} {h : Heap} {K : Nat} {x0 : (List Int)} {x1 : Int} {x2 : (List Int)} {a21 : Option Addr} {p22 : Nat} {n23 : Nat} {a25 : Option Addr} {p26 : Nat} {n27 : Nat} {r : (api_Frame × GoErr)} (H : frame_Open.m K x0 x1 x2 = some r)  :
    Fc Tryd.prog 52 #[.slice a21 n23 p22, .int .i64 x1, .slice a25 n27 p26] [rR (tInt .u8) .b a21 p22 n23 x0, rR (tInt .u8) .b a25 p26 n27 x2] B I h (fun v L => ∃ (a66 : Option Addr) (p67 : Nat) (n68 : Nat) (v70 : Value), v = .tuple #[.agg #[.int .i64 r.1.Dir, .int .i64 r.1.Seq, .slice a66 n68 p67], v70] ∧ L = [rO (tInt .u8) .i a66 p67 n68 r.1.Body, rE .i v70 r.2]) := by
 refine fc_of fun E hs => ?_
 unfold frame_Open.m at H
 obtain rfl := hs.nR d0
 obtain rfl := hs.nR d1
 refine fn_of2 (args := [.slice a21 x0.length p22, .int .i64 x1, .slice a25 x2.length p26]) (rs := [.cell 6 70, .tmp 7]) (N := 93) Tryd.func52 rfl rfl rfl rfl ?_
 refine st 2 [] (k_op (nA hs [.int .i64 0, .int .i64 0, .slice none 0 0] (.agg #[.int .i64 0, .int .i64 0, .slice none 0 0]) ?_))
 intro b29 h hs
 refine st 5 [] ?_
 obtain ⟨j32, e65, H⟩ := letJ_some H
 refine k_join (fun ρ h => ∃ (x31 : Bool) (I : Gh), j32 x31 = some r ∧ Fits [(0, .slice a21 x0.length p22), (1, .int .i64 x1), (2, .slice a25 x2.length p26), (6, .pointer (some ⟨b29, 0, none⟩)), (14, .bool x31)] ρ ∧ St E [rR (tInt .u8) .b a21 p22 x0.length x0, rR (tInt .u8) .b a25 p26 x2.length x2, rB b29 [.int .i64 0, .int .i64 0, .slice none 0 0] 70] I h) ?_ ?_
 ·refine st 3 [] (k_ite H (fun c30 H => ?_) (fun c30 H => ?_))
  ·refine st 2 [] ?_
   exact k_end ⟨true, I, H, ⟨by kernel_rfl, by kernel_rfl, by kernel_rfl, by kernel_rfl, by kernel_rfl, trivial⟩, hs.pk (.c d1 (.c d1 (.c d0 .n)))⟩
  ·refine st 2 [] ?_
   exact k_end ⟨false, I, H, ⟨by kernel_rfl, by kernel_rfl, by kernel_rfl, by kernel_rfl, by kernel_rfl, trivial⟩, hs.pk (.c d1 (.c d1 (.c d0 .n)))⟩
 ·clear H
  rintro ρ h ⟨x31, I, H, hf, hs⟩
  refine k_fits _ hf ?_ rfl
  subst e65
  try dsimp only at H
  cases x31
  ·rw [cond_false] at H
   refine st 5 [false] (k_ite H (fun c33 H => ?_) (fun c33 H => ?_))
   ·refine st 7 [true] (k_op (sN (hs.f d2) 0 [.int .i64 0, .int .i64 0, .slice none 0 0] [.int .i64 0, .int .i64 0, .slice none 0 0] (ones_of rfl) ?_))
    intro h hs
    refine st 2 [] ?_
    refine k_retQ ?_
    obtain rfl := Option.some.inj H
    exact ⟨[.agg #[.int .i64 0, .int .i64 0, .slice none 0 0], .iface 84 (.int .i64 6)], (.cons (.agg (by kernel_rfl) (by kernel_rfl) (by kernel_rfl) ((hs.bl d0).seg_ 0 3 (Nat.le_of_ble_eq_true rfl))) (.cons (.tmp (by kernel_rfl)) .nil)), I, _, ⟨none, 0, 0, (.iface 84 (.int .i64 6)), rfl, rfl⟩, hs.pk (.f imON (.f imEC .n))⟩
   ·refine st 6 [false] ?_
    obtain ⟨hs0, bk0⟩ := hs.call tk0 (.c (qB d1) .n)
    have hs := hs0
    refine k_regD hs0 12 ?_
    obtain ⟨c34, H⟩ := guard_pos H
    obtain ⟨c35, H⟩ := guard_pos H
    refine aRun [0, 1, 2, 3] 8 hs.keep ?_
    refine aP 4 (.slice (slA a25 p26 (Int.toNat (0 : Int)) 1) ((sub x2 0 (w64 ((x2.length : Int) - 16))).length) (p26 - Int.toNat (0 : Int))) rfl (pSh (e := 5) (k2 := .i64) (hs.sR d0) (Int.le_refl 0) c34 c35) hs.keep ?_
    refine aRun [5, 6, 7, 8] 3 hs.keep ?_
    refine aP 9 (.slice (slA a25 p26 (Int.toNat (w64 ((x2.length : Int) - 16))) 1) ((sub x2 (w64 ((x2.length : Int) - 16)) (x2.length : Int)).length) (p26 - Int.toNat (w64 ((x2.length : Int) - 16)))) rfl (pSl (e := 5) (k1 := .i64) (hs.sR d0) c34 c35 (Int.le_refl _)) hs.keep ?_
    refine aRun [10, 11] 0 hs.keep ?_
    replace hs := hs.pk .n
    replace hs := bk0 hs ct0 rfl
    refine aEnd ?_
    replace hs := hs.part d1 (lo := 0) (hi := (w64 ((x2.length : Int) - 16))) (Int.le_refl 0) c34 c35
    have hz := hs
    obtain ⟨I, hs⟩ := hs.all (.r (.r (.r (.d .n))))
    refine st 5 [] (k_op (nS (e := 47) hs .i (tSl (tInt .u8)) ([(sub x2 0 (w64 ((x2.length : Int) - 16)))] : List (List Int)) [.slice (slA a25 p26 (Int.toNat (0 : Int)) 1) ((sub x2 0 (w64 ((x2.length : Int) - 16))).length) (p26 - Int.toNat (0 : Int))] 1 (.slice none 0 0) (Reps.cons (T := (tSl (tInt .u8))) (c := [.slice (slA a25 p26 (Int.toNat (0 : Int)) 1) ((sub x2 0 (w64 ((x2.length : Int) - 16))).length) (p26 - Int.toNat (0 : Int))]) (x := (sub x2 0 (w64 ((x2.length : Int) - 16)))) ⟨_, _, _, rfl, (hs.g d0)⟩ (.nil : Reps (tSl (tInt .u8)) (Cl.G .i E.B I) h [] [])) ?_))
    intro b37 h hs
    obtain ⟨I, hs⟩ := hs.fO
    obtain ⟨hk, bk⟩ := hs.call tk0 (.c (qI d2) (.c (qK d0) .n))
    refine k_call H (fun _ m => mac_Tag.calls m hk) ?_
    rintro t39 _ h H ⟨I, _, ⟨rfl, rfl, hl40⟩, hk⟩
    replace hs := bk hk ct0 rfl
    obtain ⟨I, hs⟩ : ∃ I, St E _ I _ := ⟨_, hz.back hs⟩
    refine k_op (nA hs (List.map (Value.int .u8) (List.replicate 16 (0 : Int))) (.agg (List.map (Value.int .u8) (List.replicate 16 (0 : Int))).toArray) ?_)
    intro b41 h hs
    refine k_op (sAN (l2 := t39) hs (List.length_replicate (n := 16) (a := (0 : Int))) hl40 ?_)
    intro h hs
    obtain ⟨I, hs⟩ := hs.fA hl40
    refine st 5 [] (k_call H (fun _ m => mac_Equal.calls m ((hs.sR d0)).up1 (Sn.part (hs.sR d3) (lo := (w64 ((x2.length : Int) - 16))) (hi := (x2.length : Int)) c34 c35 (Int.le_refl _))) ?_)
    rintro t43 _ _ H ⟨rfl, rfl⟩
    cases t43
    ·rw [cond_false] at H
     refine st 7 [true] (k_op (sN (hs.f d4) 0 [.int .i64 0, .int .i64 0, .slice none 0 0] [.int .i64 0, .int .i64 0, .slice none 0 0] (ones_of rfl) ?_))
     intro h hs
     refine st 2 [] ?_
     refine k_retQ ?_
     obtain rfl := Option.some.inj H
     exact ⟨[.agg #[.int .i64 0, .int .i64 0, .slice none 0 0], .iface 84 (.int .i64 11)], (.cons (.agg (by kernel_rfl) (by kernel_rfl) (by kernel_rfl) ((hs.bl d0).seg_ 0 3 (Nat.le_of_ble_eq_true rfl))) (.cons (.tmp (by kernel_rfl)) .nil)), I, _, ⟨none, 0, 0, (.iface 84 (.int .i64 11)), rfl, rfl⟩, hs.pk (.f imON (.f imEC .n))⟩
    ·rw [cond_true] at H
     obtain ⟨c44, H⟩ := guard_pos H
     refine st 8 [false] (k_val (elemPtr (slA a25 p26 (Int.toNat (0 : Int)) 1) ((0 : Int).toNat * 1)) (pI (e := 5) (ik := .i64) (Sn.part (hs.sR d3) (lo := 0) (hi := (w64 ((x2.length : Int) - 16))) (Int.le_refl 0) c34 c35) (by decide) c44) ?_)
     refine k_op (lC ((Sn.part (hs.sR d3) (lo := 0) (hi := (w64 ((x2.length : Int) - 16))) (Int.le_refl 0) c34 c35).cell1 (by decide) c44) ?_)
     refine k_iteN H (fun c45 H => ?_) (fun c45 H => ?_)
     ·obtain ⟨c46, H⟩ := guard_pos H
      refine st 2 [] (k_val (elemPtr (slA a25 p26 (Int.toNat (0 : Int)) 1) ((1 : Int).toNat * 1)) (pI (e := 5) (ik := .i64) (Sn.part (hs.sR d3) (lo := 0) (hi := (w64 ((x2.length : Int) - 16))) (Int.le_refl 0) c34 c35) (by decide) c46) ?_)
      refine k_op (lC ((Sn.part (hs.sR d3) (lo := 0) (hi := (w64 ((x2.length : Int) - 16))) (Int.le_refl 0) c34 c35).cell1 (by decide) c46) ?_)
      refine st 2 [] (k_iteN H (fun c47 H => ?_) (fun c47 H => ?_))
      ·obtain ⟨c48, H⟩ := guard_pos H
       refine st 12 [false] (k_val (.slice (slA (slA a25 p26 (Int.toNat (0 : Int)) 1) (p26 - Int.toNat (0 : Int)) (Int.toNat (2 : Int)) 1) ((sub (sub x2 0 (w64 ((x2.length : Int) - 16))) 2 10).length) ((p26 - Int.toNat (0 : Int)) - Int.toNat (2 : Int))) (pS (e := 5) (k1 := .i64) (k2 := .i64) (Sn.part (hs.sR d3) (lo := 0) (hi := (w64 ((x2.length : Int) - 16))) (Int.le_refl 0) c34 c35) (by decide) (by decide) c48) ?_)
       refine st 4 [] ?_
       obtain ⟨s51, m54, HR53⟩ := bind_some H
       refine k_loop 1 (fun k' ρ h => ∃ (x49 : Int) (x50 : Int) (I : Gh), frame_Open.l1.m K x2 k' x49 x50 = some s51 ∧ Fits [(1, .int .i64 x1), (6, .pointer (some ⟨b29, 0, none⟩)), (8, .slice (slA a25 p26 (Int.toNat (0 : Int)) 1) ((sub x2 0 (w64 ((x2.length : Int) - 16))).length) (p26 - Int.toNat (0 : Int))), (11, .int .u64 x49), (61, .slice (slA (slA a25 p26 (Int.toNat (0 : Int)) 1) (p26 - Int.toNat (0 : Int)) (Int.toNat (2 : Int)) 1) ((sub (sub x2 0 (w64 ((x2.length : Int) - 16))) 2 10).length) ((p26 - Int.toNat (0 : Int)) - Int.toNat (2 : Int))), (62, .int .i64 ((sub (sub x2 0 (w64 ((x2.length : Int) - 16))) 2 10).length : Int)), (63, .int .i64 x50)] ρ ∧ St E [rR (tInt .u8) .b a25 p26 x2.length x2, rB b29 [.int .i64 0, .int .i64 0, .slice none 0 0] 70] I h) (fun ρ h => ∃ (x52 : Int) (I : Gh), x52 = s51 ∧ Fits [(1, .int .i64 x1), (6, .pointer (some ⟨b29, 0, none⟩)), (8, .slice (slA a25 p26 (Int.toNat (0 : Int)) 1) ((sub x2 0 (w64 ((x2.length : Int) - 16))).length) (p26 - Int.toNat (0 : Int))), (11, .int .u64 x52)] ρ ∧ St E [rR (tInt .u8) .b a25 p26 x2.length x2, rB b29 [.int .i64 0, .int .i64 0, .slice none 0 0] 70] I h) K ⟨0, 0, I, m54, ⟨by kernel_rfl, by kernel_rfl, by kernel_rfl, by kernel_rfl, by kernel_rfl, by kernel_rfl, by kernel_rfl, trivial⟩, hs.pk (.c d3 (.c d3 .n))⟩ ?_ rfl ?_
       ·clear HR53 m54 H
        rintro k' ρ h ⟨x49, x50, I, H, hf, hs⟩
        cases k' with
        | zero => cases H
        | succ k =>
         rw [frame_Open.l1.m] at H
         refine k_fits _ hf ?_ rfl
         refine st 2 [] (k_ite H (fun c55 H => ?_) (fun c55 H => ?_))
         ·obtain ⟨c56, H⟩ := guard_pos H
          refine st 8 [true] (k_val (elemPtr (slA (slA a25 p26 (Int.toNat (0 : Int)) 1) (p26 - Int.toNat (0 : Int)) (Int.toNat (2 : Int)) 1) (x50.toNat * 1)) (pI (e := 5) (ik := .i64) (Sn.part (Sn.part (hs.sR d0) (lo := 0) (hi := (w64 ((x2.length : Int) - 16))) (Int.le_refl 0) c34 c35) (lo := 2) (hi := 10) (by decide) (by decide) c48) c56 c55) ?_)
          refine k_op (lC ((Sn.part (Sn.part (hs.sR d0) (lo := 0) (hi := (w64 ((x2.length : Int) - 16))) (Int.le_refl 0) c34 c35) (lo := 2) (hi := 10) (by decide) (by decide) c48).cell1 c56 c55) ?_)
          refine st 15 [] ?_
          exact k_endL ⟨k, Nat.lt_succ_self _, (bOr .u64 (shl .u64 x49 8) (IntKind.u64.wrap ((at_ (sub (sub x2 0 (w64 ((x2.length : Int) - 16))) 2 10) x50)))), (w64 (x50 + 1)), I, H, ⟨by kernel_rfl, by kernel_rfl, by kernel_rfl, by kernel_rfl, by kernel_rfl, by kernel_rfl, by kernel_rfl, trivial⟩, hs.pk (.c d0 (.c d0 .n))⟩
         ·refine st 3 [false] ?_
          refine k_out rfl ?_
          obtain rfl := Option.some.inj H
          exact xE ⟨x49, I, rfl, ⟨by kernel_rfl, by kernel_rfl, by kernel_rfl, by kernel_rfl, trivial⟩, hs.pk (.c d0 (.c d0 .n))⟩
       ·rintro ρ h ⟨x52, I, rfl, hf, hs⟩
        have H := HR53
        try dsimp only at H
        refine k_fits _ hf ?_ rfl
        refine st 4 [] (k_ite H (fun c57 H => ?_) (fun c57 H => ?_))
        ·refine st 15 [true] (k_op (sN (hs.f d1) 0 [.int .i64 0, .int .i64 0, .slice none 0 0] [.int .i64 0, .int .i64 0, .slice none 0 0] (ones_of rfl) ?_))
         intro h hs
         refine st 2 [] ?_
         refine k_retQ ?_
         obtain rfl := Option.some.inj H
         exact ⟨[.agg #[.int .i64 0, .int .i64 0, .slice none 0 0], .iface 84 (.int .i64 1)], (.cons (.agg (by kernel_rfl) (by kernel_rfl) (by kernel_rfl) ((hs.bl d0).seg_ 0 3 (Nat.le_of_ble_eq_true rfl))) (.cons (.tmp (by kernel_rfl)) .nil)), I, _, ⟨none, 0, 0, (.iface 84 (.int .i64 1)), rfl, rfl⟩, hs.pk (.f imON (.f imEC .n))⟩
        ·refine st 2 [] (k_ite H (fun c58 H => ?_) (fun c58 H => ?_))
         ·refine st 12 [true] (k_op (sN (hs.f d1) 0 [.int .i64 0, .int .i64 0, .slice none 0 0] [.int .i64 0, .int .i64 0, .slice none 0 0] (ones_of rfl) ?_))
          intro h hs
          refine st 2 [] ?_
          refine k_retQ ?_
          obtain rfl := Option.some.inj H
          exact ⟨[.agg #[.int .i64 0, .int .i64 0, .slice none 0 0], .iface 84 (.int .i64 1)], (.cons (.agg (by kernel_rfl) (by kernel_rfl) (by kernel_rfl) ((hs.bl d0).seg_ 0 3 (Nat.le_of_ble_eq_true rfl))) (.cons (.tmp (by kernel_rfl)) .nil)), I, _, ⟨none, 0, 0, (.iface 84 (.int .i64 1)), rfl, rfl⟩, hs.pk (.f imON (.f imEC .n))⟩
         ·refine st 3 [] (k_call H (fun _ m => frame_sided.calls m) ?_)
          rintro t59 _ _ H ⟨rfl, rfl⟩
          cases t59
          ·rw [cond_false] at H
           refine st 8 [true] (k_op (sN (hs.f d1) 0 [.int .i64 0, .int .i64 0, .slice none 0 0] [.int .i64 0, .int .i64 0, .slice none 0 0] (ones_of rfl) ?_))
           intro h hs
           refine st 2 [] ?_
           refine k_retQ ?_
           obtain rfl := Option.some.inj H
           exact ⟨[.agg #[.int .i64 0, .int .i64 0, .slice none 0 0], .iface 84 (.int .i64 1)], (.cons (.agg (by kernel_rfl) (by kernel_rfl) (by kernel_rfl) ((hs.bl d0).seg_ 0 3 (Nat.le_of_ble_eq_true rfl))) (.cons (.tmp (by kernel_rfl)) .nil)), I, _, ⟨none, 0, 0, (.iface 84 (.int .i64 1)), rfl, rfl⟩, hs.pk (.f imON (.f imEC .n))⟩
          ·rw [cond_true] at H
           refine st 11 [false] (k_val (.slice (slA (slA a25 p26 (Int.toNat (0 : Int)) 1) (p26 - Int.toNat (0 : Int)) (Int.toNat (10 : Int)) 1) ((sub (sub x2 0 (w64 ((x2.length : Int) - 16))) 10 ((sub x2 0 (w64 ((x2.length : Int) - 16))).length : Int)).length) ((p26 - Int.toNat (0 : Int)) - Int.toNat (10 : Int))) (pSl (e := 5) (k1 := .i64) (Sn.part (hs.sR d0) (lo := 0) (hi := (w64 ((x2.length : Int) - 16))) (Int.le_refl 0) c34 c35) (by decide) c48 (Int.le_refl _)) ?_)
           obtain ⟨hk, bk⟩ := hs.call tk0 (.c (qP (qP (qB d0) (lo := 0) (hi := (w64 ((x2.length : Int) - 16))) (Int.le_refl 0) c34 c35) (lo := 10) (hi := ((sub x2 0 (w64 ((x2.length : Int) - 16))).length : Int)) (by decide) c48 (Int.le_refl _)) .n)
           refine k_call H (fun _ m => slices_Clone_bytes.calls m hk) ?_
           rintro t60 _ h H ⟨I, _, ⟨a61, p62, n63, rfl, rfl⟩, hk⟩
           replace hs := bk hk ct1 rfl
           obtain rfl := hs.nO d0
           refine st 1 [] (k_op (sN (hs.f d2) 0 [.int .i64 x1, .int .i64 (w64 (x52)), .slice a61 t60.length p62] [.int .i64 x1, .int .i64 (w64 (x52)), .slice a61 t60.length p62] (ones_of rfl) ?_))
           intro h hs
           refine st 2 [] ?_
           refine k_retQ ?_
           obtain rfl := Option.some.inj H
           exact ⟨[.agg #[.int .i64 x1, .int .i64 (w64 (x52)), .slice a61 t60.length p62], .nilIface], (.cons (.agg (by kernel_rfl) (by kernel_rfl) (by kernel_rfl) ((hs.bl d0).seg_ 0 3 (Nat.le_of_ble_eq_true rfl))) (.cons (.tmp (by kernel_rfl)) .nil)), I, _, ⟨a61, p62, t60.length, (.nilIface), rfl, rfl⟩, hs.pk (.c d1 (.f imEN .n))⟩
      ·refine st 7 [true] (k_op (sN (hs.f d4) 0 [.int .i64 0, .int .i64 0, .slice none 0 0] [.int .i64 0, .int .i64 0, .slice none 0 0] (ones_of rfl) ?_))
       intro h hs
       refine st 2 [] ?_
       refine k_retQ ?_
       obtain rfl := Option.some.inj H
       exact ⟨[.agg #[.int .i64 0, .int .i64 0, .slice none 0 0], .iface 84 (.int .i64 13)], (.cons (.agg (by kernel_rfl) (by kernel_rfl) (by kernel_rfl) ((hs.bl d0).seg_ 0 3 (Nat.le_of_ble_eq_true rfl))) (.cons (.tmp (by kernel_rfl)) .nil)), I, _, ⟨none, 0, 0, (.iface 84 (.int .i64 13)), rfl, rfl⟩, hs.pk (.f imON (.f imEC .n))⟩
     ·refine st 14 [true] (k_op (sN (hs.f d4) 0 [.int .i64 0, .int .i64 0, .slice none 0 0] [.int .i64 0, .int .i64 0, .slice none 0 0] (ones_of rfl) ?_))
      intro h hs
      refine st 2 [] ?_
      refine k_retQ ?_
      obtain rfl := Option.some.inj H
      exact ⟨[.agg #[.int .i64 0, .int .i64 0, .slice none 0 0], .iface 84 (.int .i64 13)], (.cons (.agg (by kernel_rfl) (by kernel_rfl) (by kernel_rfl) ((hs.bl d0).seg_ 0 3 (Nat.le_of_ble_eq_true rfl))) (.cons (.tmp (by kernel_rfl)) .nil)), I, _, ⟨none, 0, 0, (.iface 84 (.int .i64 13)), rfl, rfl⟩, hs.pk (.f imON (.f imEC .n))⟩
  ·rw [cond_true] at H
   refine st 5 [true] (k_op (sN (hs.f d2) 0 [.int .i64 0, .int .i64 0, .slice none 0 0] [.int .i64 0, .int .i64 0, .slice none 0 0] (ones_of rfl) ?_))
   intro h hs
   refine st 2 [] ?_
   refine k_retQ ?_
   obtain rfl := Option.some.inj H
   exact ⟨[.agg #[.int .i64 0, .int .i64 0, .slice none 0 0], .iface 84 (.int .i64 2)], (.cons (.agg (by kernel_rfl) (by kernel_rfl) (by kernel_rfl) ((hs.bl d0).seg_ 0 3 (Nat.le_of_ble_eq_true rfl))) (.cons (.tmp (by kernel_rfl)) .nil)), I, _, ⟨none, 0, 0, (.iface 84 (.int .i64 2)), rfl, rfl⟩, hs.pk (.f imON (.f imEC .n))⟩

/-! shutter/window.Has -/
def window_Has.m (x0 : api_Seen) (x1 : Int) : Option Bool :=
  (if x1 ≥ 1 then (if x1 ≤ x0.Top then (if (w64 (x0.Top - x1)) < 64 then (if 0 ≤ (w64 (x0.Top - x1)) then (some ((bAnd .u64 (shr .u64 x0.Bits (w64 (x0.Top - x1))) 1) == 1)) else none) else (some false)) else (some false)) else (some false))

theorem window_Has.calls {B I : Gh} {h : Heap} {x0 : api_Seen} {x1 : Int} {r : Bool} (H : window_Has.m x0 x1 = some r)  :
    Fc Tryd.prog 79 #[.agg #[.int .i64 x0.Top, .int .u64 x0.Bits], .int .i64 x1] [] B I h (fun v L => v = .bool r ∧ L = []) := by
 refine fc_of fun E hs => ?_
 unfold window_Has.m at H
 refine fn_of (args := [.agg #[.int .i64 x0.Top, .int .u64 x0.Bits], .int .i64 x1]) (rs := [.tmp 4]) (N := 31) Tryd.func79 rfl rfl rfl rfl ?_
 refine st 2 [] (k_op (nB hs [.int .i64 x0.Top, .int .u64 x0.Bits] ?_))
 intro b21 h hs
 refine st 5 [] (k_ite H (fun c22 H => ?_) (fun c22 H => ?_))
 ·refine st 3 [] (k_op (lB (hs.bl d0) 0 rfl ?_))
  refine k_ite H (fun c23 H => ?_) (fun c23 H => ?_)
  ·refine st 3 [] (k_op (lB (hs.bl d0) 0 rfl ?_))
   refine st 2 [] (k_ite H (fun c24 H => ?_) (fun c24 H => ?_))
   ·refine st 3 [] (k_op (lB (hs.bl d0) 1 rfl ?_))
    refine st 1 [] (k_op (lB (hs.bl d0) 0 rfl ?_))
    obtain ⟨c25, H⟩ := guard_pos H
    refine st 2 [] (k_val (.int .u64 (shr .u64 x0.Bits (w64 (x0.Top - x1)))) (pr_shr (k := .u64) (yk := .i64) (a := x0.Bits) (b := (w64 (x0.Top - x1))) (by kernel_rfl) (by kernel_rfl) c25) ?_)
    refine st 5 [] ?_
    refine k_retQ ?_
    obtain rfl := Option.some.inj H
    exact ⟨_, by kernel_rfl, I, _, ⟨rfl, rfl⟩, hs.pk .n⟩
   ·refine st 14 [] ?_
    refine k_retQ ?_
    obtain rfl := Option.some.inj H
    exact ⟨_, by kernel_rfl, I, _, ⟨rfl, rfl⟩, hs.pk .n⟩
  ·refine st 21 [] ?_
   refine k_retQ ?_
   obtain rfl := Option.some.inj H
   exact ⟨_, by kernel_rfl, I, _, ⟨rfl, rfl⟩, hs.pk .n⟩
 ·refine st 26 [] ?_
  refine k_retQ ?_
  obtain rfl := Option.some.inj H
  exact ⟨_, by kernel_rfl, I, _, ⟨rfl, rfl⟩, hs.pk .n⟩

/-! shutter/window.Let -/
def window_Let.m (x0 : api_Seen) (x1 : Int) : Option (api_Seen × GoErr) :=
  (letJ (α := Bool → Option (api_Seen × GoErr)) (fun (x25 : Bool) => (bif x25 then (some (x0, (GoErr.no 1))) else (letJ (α := Bool → Option (api_Seen × GoErr)) (fun (x28 : Bool) => (bif x28 then (if 0 ≤ (w64 (x1 - x0.Top)) then (some ((⟨x1, (bOr .u64 (shl .u64 x0.Bits (w64 (x1 - x0.Top))) 1)⟩ : api_Seen), GoErr.nil)) else none) else (if (w64 (x0.Top - x1)) ≥ 64 then (some (x0, (GoErr.no 12))) else ((window_Has.m x0 x1).bind fun t32 => bif t32 then (some (x0, (GoErr.no 12))) else (if 0 ≤ (w64 (x0.Top - x1)) then (some ((⟨x0.Top, (bOr .u64 x0.Bits (shl .u64 1 (w64 (x0.Top - x1))))⟩ : api_Seen), GoErr.nil)) else none))))) fun (j29 : Bool → Option (api_Seen × GoErr)) => (if x1 > x0.Top then (j29 true) else (j29 false))))) fun (j26 : Bool → Option (api_Seen × GoErr)) => (if x1 < 1 then (j26 true) else (if x1 > 4611686018427387904 then (j26 true) else (j26 false))))

theorem window_Let.calls {B I : Gh} {h : Heap} {x0 : api_Seen} {x1 : Int} {r : (api_Seen × GoErr)} (H : window_Let.m x0 x1 = some r)  :
    Fc Tryd.prog 53 #[.agg #[.int .i64 x0.Top, .int .u64 x0.Bits], .int .i64 x1] [] B I h (fun v L => ∃ (v36 : Value), v = .tuple #[.agg #[.int .i64 r.1.Top, .int .u64 r.1.Bits], v36] ∧ L = [rE .i v36 r.2]) := by
 refine fc_of fun E hs => ?_
 unfold window_Let.m at H
 refine fn_of2 (args := [.agg #[.int .i64 x0.Top, .int .u64 x0.Bits], .int .i64 x1]) (rs := [.cell 4 59, .tmp 5]) (N := 53) Tryd.func53 rfl rfl rfl rfl ?_
 refine st 2 [] (k_op (nB hs [.int .i64 x0.Top, .int .u64 x0.Bits] ?_))
 intro b21 h hs
 refine k_op (nA hs [.int .i64 0, .int .u64 0] (.agg #[.int .i64 0, .int .u64 0]) ?_)
 intro b22 h hs
 refine st 5 [] ?_
 obtain ⟨j26, e35, H⟩ := letJ_some H
 refine k_join (fun ρ h => ∃ (x25 : Bool) (I : Gh), j26 x25 = some r ∧ Fits [(1, .int .i64 x1), (2, .pointer (some ⟨b21, 0, none⟩)), (4, .pointer (some ⟨b22, 0, none⟩)), (6, .bool x25)] ρ ∧ St E [rB b21 [.int .i64 x0.Top, .int .u64 x0.Bits] 59, rB b22 [.int .i64 0, .int .u64 0] 59] I h) ?_ ?_
 ·refine st 2 [] (k_ite H (fun c23 H => ?_) (fun c23 H => ?_))
  ·refine st 6 [] ?_
   exact k_end ⟨true, I, H, ⟨by kernel_rfl, by kernel_rfl, by kernel_rfl, by kernel_rfl, trivial⟩, hs.pk (.c d1 (.c d0 .n))⟩
  ·refine st 2 [] (k_ite H (fun c24 H => ?_) (fun c24 H => ?_))
   ·refine st 3 [] ?_
    exact k_end ⟨true, I, H, ⟨by kernel_rfl, by kernel_rfl, by kernel_rfl, by kernel_rfl, trivial⟩, hs.pk (.c d1 (.c d0 .n))⟩
   ·refine st 3 [] ?_
    exact k_end ⟨false, I, H, ⟨by kernel_rfl, by kernel_rfl, by kernel_rfl, by kernel_rfl, trivial⟩, hs.pk (.c d1 (.c d0 .n))⟩
 ·clear H
  rintro ρ h ⟨x25, I, H, hf, hs⟩
  refine k_fits _ hf ?_ rfl
  subst e35
  try dsimp only at H
  cases x25
  ·rw [cond_false] at H
   refine st 2 [false] ?_
   obtain ⟨j29, e34, H⟩ := letJ_some H
   refine k_join (fun ρ h => ∃ (x28 : Bool) (I : Gh), j29 x28 = some r ∧ Fits [(1, .int .i64 x1), (2, .pointer (some ⟨b21, 0, none⟩)), (4, .pointer (some ⟨b22, 0, none⟩)), (15, .bool x28)] ρ ∧ St E [rB b21 [.int .i64 x0.Top, .int .u64 x0.Bits] 59, rB b22 [.int .i64 0, .int .u64 0] 59] I h) ?_ ?_
   ·refine st 3 [] (k_op (lB (hs.bl d0) 0 rfl ?_))
    refine k_ite H (fun c27 H => ?_) (fun c27 H => ?_)
    ·refine st 2 [] ?_
     exact k_end ⟨true, I, H, ⟨by kernel_rfl, by kernel_rfl, by kernel_rfl, by kernel_rfl, trivial⟩, hs.pk (.c d0 (.c d0 .n))⟩
    ·refine st 2 [] ?_
     exact k_end ⟨false, I, H, ⟨by kernel_rfl, by kernel_rfl, by kernel_rfl, by kernel_rfl, trivial⟩, hs.pk (.c d0 (.c d0 .n))⟩
   ·clear H
    rintro ρ h ⟨x28, I, H, hf, hs⟩
    refine k_fits _ hf ?_ rfl
    subst e34
    try dsimp only at H
    cases x28
    ·rw [cond_false] at H
     refine st 4 [false] (k_op (lB (hs.bl d0) 0 rfl ?_))
     refine st 2 [] (k_ite H (fun c31 H => ?_) (fun c31 H => ?_))
     ·refine st 10 [true] (k_op (lN (hs.bl d0) 0 2 ?_))
      refine st 1 [] (k_op (sN (hs.f d1) 0 [.int .i64 x0.Top, .int .u64 x0.Bits] [.int .i64 x0.Top, .int .u64 x0.Bits] (ones_of rfl) ?_))
      intro h hs
      refine st 2 [] ?_
      refine k_retQ ?_
      obtain rfl := Option.some.inj H
      exact ⟨[.agg #[.int .i64 x0.Top, .int .u64 x0.Bits], .iface 84 (.int .i64 12)], (.cons (.agg (by kernel_rfl) (by kernel_rfl) (by kernel_rfl) ((hs.bl d0).seg_ 0 2 (Nat.le_of_ble_eq_true rfl))) (.cons (.tmp (by kernel_rfl)) .nil)), I, _, ⟨(.iface 84 (.int .i64 12)), rfl, rfl⟩, hs.pk (.f imEC .n)⟩
     ·refine st 1 [] (k_op (lN (hs.bl d0) 0 2 ?_))
      obtain ⟨hk, bk⟩ := hs.call tk0 .n
      refine st 1 [] (k_call H (fun _ m => window_Has.calls m hk) ?_)
      rintro t32 _ h H ⟨I, _, ⟨rfl, rfl⟩, hk⟩
      replace hs := bk hk ct0 rfl
      cases t32
      ·rw [cond_false] at H
       refine st 7 [false] ?_
       obtain ⟨hs0, bk0⟩ := hs.call tk0 (.c (qL d0) .n)
       have hs := hs0
       refine k_regD hs0 9 ?_
       refine aRun [0] 9 hs.keep ?_
       refine aL 1 rfl hs.keep (ll hs0 d0 (n := 1) rfl) (nmL hs0 d0) ?_
       refine aRun [2] 7 hs.keep ?_
       refine aL 3 rfl hs.keep (ll hs0 d0 (n := 0) rfl) (nmL hs0 d0) ?_
       obtain ⟨c33, H⟩ := guard_pos H
       refine aRun [4, 5] 4 hs.keep ?_
       refine aP 6 (.int .u64 (shl .u64 1 (w64 (x0.Top - x1)))) rfl (pr_shl (k := .u64) (yk := .i64) (a := 1) (b := (w64 (x0.Top - x1))) (by kernel_rfl) (by kernel_rfl) c33) hs.keep ?_
       refine aRun [7, 8] 1 hs.keep ?_
       replace hs := hs.pk .n
       replace hs := bk0 hs ct0 rfl
       refine aOL 9 rfl (sB (v := .int .u64 (bOr .u64 x0.Bits (shl .u64 1 (w64 (x0.Top - x1))))) hs cw1 ?_)
       intro h hs
       refine aEnd ?_
       refine st 2 [] (k_op (lN (hs.bl d0) 0 2 ?_))
       refine k_op (sN (hs.f d1) 0 [.int .i64 x0.Top, .int .u64 (bOr .u64 x0.Bits (shl .u64 1 (w64 (x0.Top - x1))))] [.int .i64 x0.Top, .int .u64 (bOr .u64 x0.Bits (shl .u64 1 (w64 (x0.Top - x1))))] (ones_of rfl) ?_)
       intro h hs
       refine st 2 [] ?_
       refine k_retQ ?_
       obtain rfl := Option.some.inj H
       exact ⟨[.agg #[.int .i64 x0.Top, .int .u64 (bOr .u64 x0.Bits (shl .u64 1 (w64 (x0.Top - x1))))], .nilIface], (.cons (.agg (by kernel_rfl) (by kernel_rfl) (by kernel_rfl) ((hs.bl d0).seg_ 0 2 (Nat.le_of_ble_eq_true rfl))) (.cons (.tmp (by kernel_rfl)) .nil)), I, _, ⟨(.nilIface), rfl, rfl⟩, hs.pk (.f imEN .n)⟩
      ·rw [cond_true] at H
       refine st 6 [true] (k_op (lN (hs.bl d0) 0 2 ?_))
       refine st 1 [] (k_op (sN (hs.f d1) 0 [.int .i64 x0.Top, .int .u64 x0.Bits] [.int .i64 x0.Top, .int .u64 x0.Bits] (ones_of rfl) ?_))
       intro h hs
       refine st 2 [] ?_
       refine k_retQ ?_
       obtain rfl := Option.some.inj H
       exact ⟨[.agg #[.int .i64 x0.Top, .int .u64 x0.Bits], .iface 84 (.int .i64 12)], (.cons (.agg (by kernel_rfl) (by kernel_rfl) (by kernel_rfl) ((hs.bl d0).seg_ 0 2 (Nat.le_of_ble_eq_true rfl))) (.cons (.tmp (by kernel_rfl)) .nil)), I, _, ⟨(.iface 84 (.int .i64 12)), rfl, rfl⟩, hs.pk (.f imEC .n)⟩
    ·rw [cond_true] at H
     refine st 5 [true] (k_op (lB (hs.bl d0) 1 rfl ?_))
     refine st 2 [] (k_op (lB (hs.bl d0) 0 rfl ?_))
     obtain ⟨c30, H⟩ := guard_pos H
     refine st 1 [] (k_val (.int .u64 (shl .u64 x0.Bits (w64 (x1 - x0.Top)))) (pr_shl (k := .u64) (yk := .i64) (a := x0.Bits) (b := (w64 (x1 - x0.Top))) (by kernel_rfl) (by kernel_rfl) c30) ?_)
     refine st 2 [] (k_op (sN (hs.f d1) 0 [.int .i64 x1, .int .u64 (bOr .u64 (shl .u64 x0.Bits (w64 (x1 - x0.Top))) 1)] [.int .i64 x1, .int .u64 (bOr .u64 (shl .u64 x0.Bits (w64 (x1 - x0.Top))) 1)] (ones_of rfl) ?_))
     intro h hs
     refine st 2 [] ?_
     refine k_retQ ?_
     obtain rfl := Option.some.inj H
     exact ⟨[.agg #[.int .i64 x1, .int .u64 (bOr .u64 (shl .u64 x0.Bits (w64 (x1 - x0.Top))) 1)], .nilIface], (.cons (.agg (by kernel_rfl) (by kernel_rfl) (by kernel_rfl) ((hs.bl d0).seg_ 0 2 (Nat.le_of_ble_eq_true rfl))) (.cons (.tmp (by kernel_rfl)) .nil)), I, _, ⟨(.nilIface), rfl, rfl⟩, hs.pk (.f imEN .n)⟩
  ·rw [cond_true] at H
   refine st 3 [true] (k_op (lN (hs.bl d0) 0 2 ?_))
   refine st 1 [] (k_op (sN (hs.f d1) 0 [.int .i64 x0.Top, .int .u64 x0.Bits] [.int .i64 x0.Top, .int .u64 x0.Bits] (ones_of rfl) ?_))
   intro h hs
   refine st 2 [] ?_
   refine k_retQ ?_
   obtain rfl := Option.some.inj H
   exact ⟨[.agg #[.int .i64 x0.Top, .int .u64 x0.Bits], .iface 84 (.int .i64 1)], (.cons (.agg (by kernel_rfl) (by kernel_rfl) (by kernel_rfl) ((hs.bl d0).seg_ 0 2 (Nat.le_of_ble_eq_true rfl))) (.cons (.tmp (by kernel_rfl)) .nil)), I, _, ⟨(.iface 84 (.int .i64 1)), rfl, rfl⟩, hs.pk (.f imEC .n)⟩

/-! (shutter/roam.Gate).Come -/
def roam_Gate_Come.m (K : Nat) (x0 : roam_Gate) (x1 : ByteArray) (x2 : (List Int)) : Option (roam_Gate × (List Int) × GoErr) :=
  ((frame_Open.m K x0.Key x0.Dir x2).bind fun t31 => (if t31.2 = GoErr.nil then ((window_Let.m x0.Seen t31.1.Seq).bind fun t42 => (if t42.2 = GoErr.nil then (if t31.1.Seq > x0.Peer.Seq then (some ((⟨x0.Key, x0.Dir, t42.1, (⟨x1, t31.1.Seq⟩ : api_Peer)⟩ : roam_Gate), t31.1.Body, GoErr.nil)) else (some ((⟨x0.Key, x0.Dir, t42.1, x0.Peer⟩ : roam_Gate), t31.1.Body, GoErr.nil))) else (some (x0, [], t42.2)))) else (some (x0, [], t31.2))))

theorem roam_Gate_Come.calls {B I : Gh} {h : Heap} {K : Nat} {x0 : roam_Gate} {x1 : ByteArray} {x2 : (List Int)} {a21 : Option Addr} {p22 : Nat} {n23 : Nat} {a25 : Option Addr} {p26 : Nat} {n27 : Nat} {r : (roam_Gate × (List Int) × GoErr)} (H : roam_Gate_Come.m K x0 x1 x2 = some r)  :
    Fc Tryd.prog 26 #[.agg #[.slice a21 n23 p22, .int .i64 x0.Dir, .int .i64 x0.Seen.Top, .int .u64 x0.Seen.Bits, .string x0.Peer.Addr, .int .i64 x0.Peer.Seq], .string x1, .slice a25 n27 p26] [rR (tInt .u8) .i a21 p22 n23 x0.Key, rR (tInt .u8) .b a25 p26 n27 x2] B I h (fun v L => ∃ (a50 : Option Addr) (p51 : Nat) (n52 : Nat) (a54 : Option Addr) (p55 : Nat) (n56 : Nat) (v58 : Value), v = .tuple #[.agg #[.slice a50 n52 p51, .int .i64 r.1.Dir, .int .i64 r.1.Seen.Top, .int .u64 r.1.Seen.Bits, .string r.1.Peer.Addr, .int .i64 r.1.Peer.Seq], .slice a54 n56 p55, v58] ∧ L = [rR (tInt .u8) .i a50 p51 n52 r.1.Key, rO (tInt .u8) .i a54 p55 n56 r.2.1, rE .i v58 r.2.2]) := by
 refine fc_of fun E hs => ?_
 unfold roam_Gate_Come.m at H
 obtain rfl := hs.nR d0
 obtain rfl := hs.nR d1
 refine fn_of2 (args := [.agg #[.slice a21 x0.Key.length p22, .int .i64 x0.Dir, .int .i64 x0.Seen.Top, .int .u64 x0.Seen.Bits, .string x0.Peer.Addr, .int .i64 x0.Peer.Seq], .string x1, .slice a25 x2.length p26]) (rs := [.cell 6 63, .tmp 7, .tmp 8]) (N := 53) Tryd.func26 rfl rfl rfl rfl ?_
 refine st 2 [] (k_op (nB hs [.slice a21 x0.Key.length p22, .int .i64 x0.Dir, .int .i64 x0.Seen.Top, .int .u64 x0.Seen.Bits, .string x0.Peer.Addr, .int .i64 x0.Peer.Seq] ?_))
 intro b29 h hs
 refine k_op (nA hs [.slice none 0 0, .int .i64 0, .int .i64 0, .int .u64 0, .string (⟨#[]⟩ : ByteArray), .int .i64 0] (.agg #[.slice none 0 0, .int .i64 0, .int .i64 0, .int .u64 0, .string (⟨#[]⟩ : ByteArray), .int .i64 0]) ?_)
 intro b30 h hs
 refine st 6 [] (k_op (lB (hs.bl d1) 0 rfl ?_))
 refine st 1 [] (k_op (lB (hs.bl d1) 1 rfl ?_))
 obtain ⟨hk, bk⟩ := hs.call tk0 (.c (qI d2) (.c (qB d3) .n))
 refine st 1 [] (k_call H (fun _ m => frame_Open.calls m hk) ?_)
 rintro t31 _ h H ⟨I, _, ⟨a32, p33, n34, v36, rfl, rfl⟩, hk⟩
 replace hs := bk hk ct2 rfl
 obtain rfl := hs.nO d0
 refine st 3 [] (k_op (nA hs [.int .i64 0, .int .i64 0, .slice none 0 0] (.agg #[.int .i64 0, .int .i64 0, .slice none 0 0]) ?_))
 intro b38 h hs
 refine k_op (sN hs 0 [.int .i64 t31.1.Dir, .int .i64 t31.1.Seq, .slice a32 t31.1.Body.length p33] [.int .i64 t31.1.Dir, .int .i64 t31.1.Seq, .slice a32 t31.1.Body.length p33] (ones_of rfl) ?_)
 intro h hs
 rcases (hs.er d2).cases with ⟨c39, rfl⟩ | ⟨c39, t40, u41, rfl⟩
 ·rw [if_pos c39] at H
  refine st 13 [false] (k_op (lN (hs.bl d4) 2 2 ?_))
  refine st 1 [] (k_op (lB (hs.bl d0) 1 rfl ?_))
  obtain ⟨hk, bk⟩ := hs.call tk0 .n
  refine k_call H (fun _ m => window_Let.calls m hk) ?_
  rintro t42 _ h H ⟨I, _, ⟨v43, rfl, rfl⟩, hk⟩
  replace hs := bk hk ct1 rfl
  refine st 3 [] (k_op (nA hs [.int .i64 0, .int .u64 0] (.agg #[.int .i64 0, .int .u64 0]) ?_))
  intro b45 h hs
  refine k_op (sN hs 0 [.int .i64 t42.1.Top, .int .u64 t42.1.Bits] [.int .i64 t42.1.Top, .int .u64 t42.1.Bits] (ones_of rfl) ?_)
  intro h hs
  rcases (hs.er d1).cases with ⟨c46, rfl⟩ | ⟨c46, t47, u48, rfl⟩
  ·rw [if_pos c46] at H
   refine st 12 [false] (k_op (lN (hs.bl d0) 0 2 ?_))
   refine st 1 [] (k_op (sN (hs.f d6) 2 [.int .i64 t42.1.Top, .int .u64 t42.1.Bits] [.slice a21 x0.Key.length p22, .int .i64 x0.Dir, .int .i64 t42.1.Top, .int .u64 t42.1.Bits, .string x0.Peer.Addr, .int .i64 x0.Peer.Seq] (ones_of rfl) ?_))
   intro h hs
   refine st 5 [] (k_op (lB (hs.bl d3) 1 rfl ?_))
   refine st 2 [] (k_op (lB (hs.bl d0) 5 rfl ?_))
   refine k_ite H (fun c49 H => ?_) (fun c49 H => ?_)
   ·refine st 5 [true] (k_op (lB (hs.bl d3) 1 rfl ?_))
    refine st 2 [] (k_op (sN hs 4 [.string x1, .int .i64 t31.1.Seq] [.slice a21 x0.Key.length p22, .int .i64 x0.Dir, .int .i64 t42.1.Top, .int .u64 t42.1.Bits, .string x1, .int .i64 t31.1.Seq] (ones_of rfl) ?_))
    intro h hs
    refine st 2 [] ?_
    obtain ⟨hs0, bk0⟩ := (hs.f d6).call tk1 (.c (qL d0) (.c (qL d3) .n))
    have hs := hs0
    refine k_regD hs0 4 ?_
    refine aG 0 rfl hs.keep (lls hs0 d1 0 6 rfl) (nmL hs0 d1) ?_
    refine aRun [1] 4 hs.keep ?_
    refine aL 2 rfl hs.keep (ll hs0 d2 (n := 2) rfl) (nmL hs0 d2) ?_
    refine aO1 3 rfl (sN hs 0 [.slice a21 x0.Key.length p22, .int .i64 x0.Dir, .int .i64 t42.1.Top, .int .u64 t42.1.Bits, .string x1, .int .i64 t31.1.Seq] [.slice a21 x0.Key.length p22, .int .i64 x0.Dir, .int .i64 t42.1.Top, .int .u64 t42.1.Bits, .string x1, .int .i64 t31.1.Seq] (ones_of rfl) ?_)
    intro h hs
    refine ⟨hs.keep, ?_⟩
    replace hs := hs.pk (.c d0 .n)
    replace hs := bk0 hs ct1 rfl
    refine aOL 4 rfl (owp_pure (.slice a32 t31.1.Body.length p33) (by kernel_rfl) ?_)
    refine aOL 5 rfl (owp_pure .nilIface (by kernel_rfl) ?_)
    refine aEnd ?_
    refine k_retQ ?_
    obtain rfl := Option.some.inj H
    exact ⟨[.agg #[.slice a21 x0.Key.length p22, .int .i64 x0.Dir, .int .i64 t42.1.Top, .int .u64 t42.1.Bits, .string x1, .int .i64 t31.1.Seq], .slice a32 t31.1.Body.length p33, .nilIface], (.cons (.agg (by kernel_rfl) (by kernel_rfl) (by kernel_rfl) ((hs.bl d0).seg_ 0 6 (Nat.le_of_ble_eq_true rfl))) (.cons (.tmp (by kernel_rfl)) (.cons (.tmp (by kernel_rfl)) .nil))), I, _, ⟨a21, p22, x0.Key.length, a32, p33, t31.1.Body.length, (.nilIface), rfl, rfl⟩, hs.pk (.c d7 (.c d5 (.f imEN .n)))⟩
   ·refine st 4 [false] ?_
    obtain ⟨hs0, bk0⟩ := (hs.f d6).call tk1 (.c (qL d0) (.c (qL d3) .n))
    have hs := hs0
    refine k_regD hs0 4 ?_
    refine aG 0 rfl hs.keep (lls hs0 d1 0 6 rfl) (nmL hs0 d1) ?_
    refine aRun [1] 4 hs.keep ?_
    refine aL 2 rfl hs.keep (ll hs0 d2 (n := 2) rfl) (nmL hs0 d2) ?_
    refine aO1 3 rfl (sN hs 0 [.slice a21 x0.Key.length p22, .int .i64 x0.Dir, .int .i64 t42.1.Top, .int .u64 t42.1.Bits, .string x0.Peer.Addr, .int .i64 x0.Peer.Seq] [.slice a21 x0.Key.length p22, .int .i64 x0.Dir, .int .i64 t42.1.Top, .int .u64 t42.1.Bits, .string x0.Peer.Addr, .int .i64 x0.Peer.Seq] (ones_of rfl) ?_)
    intro h hs
    refine ⟨hs.keep, ?_⟩
    replace hs := hs.pk (.c d0 .n)
    replace hs := bk0 hs ct1 rfl
    refine aOL 4 rfl (owp_pure (.slice a32 t31.1.Body.length p33) (by kernel_rfl) ?_)
    refine aOL 5 rfl (owp_pure .nilIface (by kernel_rfl) ?_)
    refine aEnd ?_
    refine k_retQ ?_
    obtain rfl := Option.some.inj H
    exact ⟨[.agg #[.slice a21 x0.Key.length p22, .int .i64 x0.Dir, .int .i64 t42.1.Top, .int .u64 t42.1.Bits, .string x0.Peer.Addr, .int .i64 x0.Peer.Seq], .slice a32 t31.1.Body.length p33, .nilIface], (.cons (.agg (by kernel_rfl) (by kernel_rfl) (by kernel_rfl) ((hs.bl d0).seg_ 0 6 (Nat.le_of_ble_eq_true rfl))) (.cons (.tmp (by kernel_rfl)) (.cons (.tmp (by kernel_rfl)) .nil))), I, _, ⟨a21, p22, x0.Key.length, a32, p33, t31.1.Body.length, (.nilIface), rfl, rfl⟩, hs.pk (.c d7 (.c d5 (.f imEN .n)))⟩
  ·rw [if_neg c46] at H
   refine st 11 [true] (k_op (lN (hs.bl d6) 0 6 ?_))
   refine st 1 [] (k_op (sN (hs.f d5) 0 [.slice a21 x0.Key.length p22, .int .i64 x0.Dir, .int .i64 x0.Seen.Top, .int .u64 x0.Seen.Bits, .string x0.Peer.Addr, .int .i64 x0.Peer.Seq] [.slice a21 x0.Key.length p22, .int .i64 x0.Dir, .int .i64 x0.Seen.Top, .int .u64 x0.Seen.Bits, .string x0.Peer.Addr, .int .i64 x0.Peer.Seq] (ones_of rfl) ?_))
   intro h hs
   refine st 3 [] ?_
   refine k_retQ ?_
   obtain rfl := Option.some.inj H
   exact ⟨[.agg #[.slice a21 x0.Key.length p22, .int .i64 x0.Dir, .int .i64 x0.Seen.Top, .int .u64 x0.Seen.Bits, .string x0.Peer.Addr, .int .i64 x0.Peer.Seq], .slice none 0 0, (.iface t47 u48)], (.cons (.agg (by kernel_rfl) (by kernel_rfl) (by kernel_rfl) ((hs.bl d0).seg_ 0 6 (Nat.le_of_ble_eq_true rfl))) (.cons (.tmp (by kernel_rfl)) (.cons (.tmp (by kernel_rfl)) .nil))), I, _, ⟨a21, p22, x0.Key.length, none, 0, 0, ((.iface t47 u48)), rfl, rfl⟩, hs.pk (.c d7 (.f imON (.c d2 .n)))⟩
 ·rw [if_neg c39] at H
  refine st 11 [true] (k_op (lN (hs.bl d4) 0 6 ?_))
  refine st 1 [] (k_op (sN (hs.f d3) 0 [.slice a21 x0.Key.length p22, .int .i64 x0.Dir, .int .i64 x0.Seen.Top, .int .u64 x0.Seen.Bits, .string x0.Peer.Addr, .int .i64 x0.Peer.Seq] [.slice a21 x0.Key.length p22, .int .i64 x0.Dir, .int .i64 x0.Seen.Top, .int .u64 x0.Seen.Bits, .string x0.Peer.Addr, .int .i64 x0.Peer.Seq] (ones_of rfl) ?_))
  intro h hs
  refine st 3 [] ?_
  refine k_retQ ?_
  obtain rfl := Option.some.inj H
  exact ⟨[.agg #[.slice a21 x0.Key.length p22, .int .i64 x0.Dir, .int .i64 x0.Seen.Top, .int .u64 x0.Seen.Bits, .string x0.Peer.Addr, .int .i64 x0.Peer.Seq], .slice none 0 0, (.iface t40 u41)], (.cons (.agg (by kernel_rfl) (by kernel_rfl) (by kernel_rfl) ((hs.bl d0).seg_ 0 6 (Nat.le_of_ble_eq_true rfl))) (.cons (.tmp (by kernel_rfl)) (.cons (.tmp (by kernel_rfl)) .nil))), I, _, ⟨a21, p22, x0.Key.length, none, 0, 0, ((.iface t40 u41)), rfl, rfl⟩, hs.pk (.c d5 (.f imON (.c d3 .n)))⟩

/-! (shutter/roam.Gate).Known -/
def roam_Gate_Known.m (x0 : roam_Gate) : Option Bool :=
  (some (decide (x0.Peer.Seq > 0)))

theorem roam_Gate_Known.calls {B I : Gh} {h : Heap} {x0 : roam_Gate} {a21 : Option Addr} {p22 : Nat} {n23 : Nat} {r : Bool} (H : roam_Gate_Known.m x0 = some r)  :
    Fc Tryd.prog 28 #[.agg #[.slice a21 n23 p22, .int .i64 x0.Dir, .int .i64 x0.Seen.Top, .int .u64 x0.Seen.Bits, .string x0.Peer.Addr, .int .i64 x0.Peer.Seq]] [rR (tInt .u8) .b a21 p22 n23 x0.Key] B I h (fun v L => v = .bool r ∧ L = []) := by
 refine fc_of fun E hs => ?_
 unfold roam_Gate_Known.m at H
 obtain rfl := hs.nR d0
 refine fn_of (args := [.agg #[.slice a21 x0.Key.length p22, .int .i64 x0.Dir, .int .i64 x0.Seen.Top, .int .u64 x0.Seen.Bits, .string x0.Peer.Addr, .int .i64 x0.Peer.Seq]]) (rs := [.tmp 2]) (N := 7) Tryd.func28 rfl rfl rfl rfl ?_
 refine st 2 [] (k_op (nB hs [.slice a21 x0.Key.length p22, .int .i64 x0.Dir, .int .i64 x0.Seen.Top, .int .u64 x0.Seen.Bits, .string x0.Peer.Addr, .int .i64 x0.Peer.Seq] ?_))
 intro b25 h hs
 refine st 6 [] (k_op (lB (hs.bl d0) 5 rfl ?_))
 refine st 3 [] ?_
 refine k_retQ ?_
 obtain rfl := Option.some.inj H
 exact ⟨_, by kernel_rfl, I, _, ⟨rfl, rfl⟩, hs.pk .n⟩

/-! shutter/api.Code -/
def api_Code.m (x0 : GoErr) : Option Int := some (codeOf x0)
theorem api_Code.calls {B I : Gh} {h : Heap} {x0 : GoErr} {v1 : Value} {r : Int} (H : api_Code.m x0 = some r) : Fc Tryd.prog 15 #[v1] [rE .b v1 x0, rG] B I h (fun v L => v = .int .i64 r ∧ L = []) :=
  Code_fc (Option.some.inj H)

end Go.Proofs.YtpkcckaaocannaaDoor.Sx
