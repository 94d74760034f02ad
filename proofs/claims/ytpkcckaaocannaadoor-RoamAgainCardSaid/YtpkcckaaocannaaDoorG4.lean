/- Printed walks, part 4: each function's model, and that the code comes to it. -/
import Derived.Test.YtpkcckaaocannaaDoorProg
import Derived.Test.YtpkcckaaocannaaDoorV4
import Derived.Test.YtpkcckaaocannaaDoorV5
import Derived.Test.YtpkcckaaocannaaDoorG3
namespace Go.Proofs.YtpkcckaaocannaaDoor.Sx
open Go
set_option maxRecDepth 100000
set_option maxHeartbeats 4000000

/-! shutter/shutterref01.Same -/
def shutterref01_Same.l1.m (K : Nat) (x0 : (List Int)) (x1 : (List Int)) : Nat → Int → Option (Bool ⊕ (Unit))
  | 0, _ => none
  | k + 1, x32 => (if x32 < (x0.length : Int) then (if 0 ≤ x32 then (if x32 < (x1.length : Int) then (if (at_ x0 x32) = (at_ x1 x32) then (shutterref01_Same.l1.m K x0 x1 k (w64 (x32 + 1))) else (some (Sum.inl false))) else none) else none) else (some (Sum.inr ())))
def shutterref01_Same.m (K : Nat) (x0 : (List Int)) (x1 : (List Int)) : Option Bool :=
  (if (x0.length : Int) = (x1.length : Int) then ((shutterref01_Same.l1.m K x0 x1 K 0).bind fun s33 => match s33 with | .inl q => (some q) | .inr _ => (some true)) else (some false))

theorem shutterref01_Same.calls {G : Gh} {K : Nat} {x0 : (List Int)} {x1 : (List Int)} {a21 : Option Addr} {p22 : Nat} {n23 : Nat} {a25 : Option Addr} {p26 : Nat} {n27 : Nat} {h : Heap} {r : Bool} (H : shutterref01_Same.m K x0 x1 = some r)  (s29 : Sn (tInt .u8) G h a21 p22 n23 x0) (s30 : Sn (tInt .u8) G h a25 p26 n27 x1) :
    Ret Tryd.prog 29 #[.slice a21 n23 p22, .slice a25 n27 p26] h (fun v h' => .bool r = v ∧ h' = h) := by
 unfold shutterref01_Same.m at H
 obtain rfl := s29.len.symm
 obtain rfl := s30.len.symm
 refine fn_of (args := [.slice a21 x0.length p22, .slice a25 x1.length p26]) (rs := [.tmp 4]) (N := 26) Tryd.func29 rfl rfl rfl rfl ?_
 refine st 11 [] (k_iteN H (fun c31 H => ?_) (fun c31 H => ?_))
 ·refine st 9 [false] ?_
  obtain ⟨s33, m35, HR34⟩ := bind_some H
  refine k_loop 0 (fun k' ρ h1 => ∃ (x32 : Int), shutterref01_Same.l1.m K x0 x1 k' x32 = some s33 ∧ Fits [(0, .slice a21 x0.length p22), (1, .slice a25 x1.length p26), (5, .int .i64 x32)] ρ ∧ h = h1) (fun ρ h1 => Sum.inr () = s33 ∧ Fits [] ρ ∧ h = h1) K ⟨0, m35, ⟨by kernel_rfl, by kernel_rfl, by kernel_rfl, trivial⟩, rfl⟩ ?_ rfl ?_
  ·clear m35 H
   rintro k' ρ h1 ⟨x32, H, hf, rfl⟩
   cases k' with
   | zero => cases H
   | succ k =>
    rw [shutterref01_Same.l1.m] at H
    refine k_fits _ hf ?_ rfl
    refine st 6 [] (k_ite H (fun c36 H => ?_) (fun c36 H => ?_))
    ·refine st 6 [true] ?_
     refine k_regP 9 ?_
     obtain ⟨c37, H⟩ := guard_pos H
     refine aRun [0, 1] 7 Keep.refl ?_
     refine aP 2 (elemPtr a21 (x32.toNat * 1)) rfl (pI (e := 5) (ik := .i64) s29 c37 c36) Keep.refl ?_
     refine aL 3 rfl Keep.refl (s29.cell1 c37 c36) (fun _ _ x => x) ?_
     obtain ⟨c38, H⟩ := guard_pos H
     refine aRun [4, 5] 3 Keep.refl ?_
     refine aP 6 (elemPtr a25 (x32.toNat * 1)) rfl (pI (e := 5) (ik := .i64) s30 c37 c38) Keep.refl ?_
     refine aL 7 rfl Keep.refl (s30.cell1 c37 c38) (fun _ _ x => x) ?_
     by_cases c39 : (at_ x0 x32) = (at_ x1 x32)
     ·rw [if_pos c39] at H
      refine aP 8 (.bool false) rfl (pr_bool (by kernel_rfl) (neF c39)) Keep.refl ?_
      refine aEnd ?_
      refine st 8 [false] ?_
      exact k_endL ⟨k, Nat.lt_succ_self _, (w64 (x32 + 1)), H, ⟨by kernel_rfl, by kernel_rfl, by kernel_rfl, trivial⟩, rfl⟩
     ·rw [if_neg c39] at H
      refine aP 8 (.bool true) rfl (pr_bool (by kernel_rfl) (neT c39)) Keep.refl ?_
      refine aEnd ?_
      refine st 5 [true] ?_
      refine k_retQ (krL ?_)
      obtain rfl := Option.some.inj H
      obtain rfl := Option.some.inj HR34
      exact ⟨_, by kernel_rfl, rfl, rfl⟩
    ·refine st 2 [false] ?_
     refine k_out rfl ?_
     obtain rfl := Option.some.inj H
     exact xE ⟨rfl, trivial, rfl⟩
  ·rintro ρ h1 ⟨rfl, hf, rfl⟩
   have H := HR34
   try dsimp only at H
   refine k_fits _ hf ?_ rfl
   refine st 4 [] ?_
   refine k_retQ ?_
   obtain rfl := Option.some.inj H
   exact ⟨_, by kernel_rfl, rfl, rfl⟩
 ·refine st 6 [true] ?_
  refine k_retQ ?_
  obtain rfl := Option.some.inj H
  exact ⟨_, by kernel_rfl, rfl, rfl⟩

/-! shutter/shutterlaw21.same -/
def shutterlaw21_same.m (K : Nat) (x0 : roam_Gate) (x1 : roam_Gate) : Option Bool :=
  ((shutterref01_Same.m K x0.Key x1.Key).bind fun t31 => bif t31 then (if x0.Dir = x1.Dir then (bif ((x0.Seen.Top == x1.Seen.Top) && ((x0.Seen.Bits == x1.Seen.Bits) && true)) then (some ((x0.Peer.Addr == x1.Peer.Addr) && ((x0.Peer.Seq == x1.Peer.Seq) && true))) else (some false)) else (some false)) else (some false))

theorem shutterlaw21_same.calls {B I : Gh} {h : Heap} {K : Nat} {x0 : roam_Gate} {x1 : roam_Gate} {a21 : Option Addr} {p22 : Nat} {n23 : Nat} {a25 : Option Addr} {p26 : Nat} {n27 : Nat} {r : Bool} (H : shutterlaw21_same.m K x0 x1 = some r)  :
    Fc Tryd.prog 27 #[.agg #[.slice a21 n23 p22, .int .i64 x0.Dir, .int .i64 x0.Seen.Top, .int .u64 x0.Seen.Bits, .string x0.Peer.Addr, .int .i64 x0.Peer.Seq], .agg #[.slice a25 n27 p26, .int .i64 x1.Dir, .int .i64 x1.Seen.Top, .int .u64 x1.Seen.Bits, .string x1.Peer.Addr, .int .i64 x1.Peer.Seq]] [rR (tInt .u8) .b a21 p22 n23 x0.Key, rR (tInt .u8) .b a25 p26 n27 x1.Key] B I h (fun v L => v = .bool r ∧ L = []) := by
 refine fc_of fun E hs => ?_
 unfold shutterlaw21_same.m at H
 obtain rfl := hs.nR d0
 obtain rfl := hs.nR d1
 refine fn_of (args := [.agg #[.slice a21 x0.Key.length p22, .int .i64 x0.Dir, .int .i64 x0.Seen.Top, .int .u64 x0.Seen.Bits, .string x0.Peer.Addr, .int .i64 x0.Peer.Seq], .agg #[.slice a25 x1.Key.length p26, .int .i64 x1.Dir, .int .i64 x1.Seen.Top, .int .u64 x1.Seen.Bits, .string x1.Peer.Addr, .int .i64 x1.Peer.Seq]]) (rs := [.tmp 4]) (N := 31) Tryd.func27 rfl rfl rfl rfl ?_
 refine st 2 [] (k_op (nB hs [.slice a21 x0.Key.length p22, .int .i64 x0.Dir, .int .i64 x0.Seen.Top, .int .u64 x0.Seen.Bits, .string x0.Peer.Addr, .int .i64 x0.Peer.Seq] ?_))
 intro b29 h hs
 refine k_op (nB hs [.slice a25 x1.Key.length p26, .int .i64 x1.Dir, .int .i64 x1.Seen.Top, .int .u64 x1.Seen.Bits, .string x1.Peer.Addr, .int .i64 x1.Peer.Seq] ?_)
 intro b30 h hs
 refine st 5 [] (k_op (lB (hs.bl d1) 0 rfl ?_))
 refine st 1 [] (k_op (lB (hs.bl d0) 0 rfl ?_))
 refine k_call H (fun _ m => shutterref01_Same.calls m (hs.sR d2) (hs.sR d3)) ?_
 rintro t31 _ _ H ⟨rfl, rfl⟩
 cases t31
 ·rw [cond_false] at H
  refine st 23 [] ?_
  refine k_retQ ?_
  obtain rfl := Option.some.inj H
  exact ⟨_, by kernel_rfl, I, _, ⟨rfl, rfl⟩, hs.pk .n⟩
 ·rw [cond_true] at H
  refine st 2 [] (k_op (lB (hs.bl d1) 1 rfl ?_))
  refine st 1 [] (k_op (lB (hs.bl d0) 1 rfl ?_))
  refine k_ite H (fun c32 H => ?_) (fun c32 H => ?_)
  ·refine st 3 [] (k_op (lN (hs.bl d1) 2 2 ?_))
   refine st 1 [] (k_op (lN (hs.bl d0) 2 2 ?_))
   rcases bool_or ((x0.Seen.Top == x1.Seen.Top) && ((x0.Seen.Bits == x1.Seen.Bits) && true)) with c33 | c33
   ·replace H := bif_f c33 H
    refine k_op (owp_run (.bool false) (run_bool (run_eqAgg (xs := #[.int .i64 x0.Seen.Top, .int .u64 x0.Seen.Bits]) (ys := #[.int .i64 x1.Seen.Top, .int .u64 x1.Seen.Bits]) (by kernel_rfl) (by kernel_rfl) (by kernel_rfl) (eqB_run (b := ((x0.Seen.Top == x1.Seen.Top) && ((x0.Seen.Bits == x1.Seen.Bits) && true))) (by kernel_rfl))) c33) ?_)
    refine st 10 [] ?_
    refine k_retQ ?_
    obtain rfl := Option.some.inj H
    exact ⟨_, by kernel_rfl, I, _, ⟨rfl, rfl⟩, hs.pk .n⟩
   ·replace H := bif_t c33 H
    refine k_op (owp_run (.bool true) (run_bool (run_eqAgg (xs := #[.int .i64 x0.Seen.Top, .int .u64 x0.Seen.Bits]) (ys := #[.int .i64 x1.Seen.Top, .int .u64 x1.Seen.Bits]) (by kernel_rfl) (by kernel_rfl) (by kernel_rfl) (eqB_run (b := ((x0.Seen.Top == x1.Seen.Top) && ((x0.Seen.Bits == x1.Seen.Bits) && true))) (by kernel_rfl))) c33) ?_)
    refine st 3 [] (k_op (lN (hs.bl d1) 4 2 ?_))
    refine st 1 [] (k_op (lN (hs.bl d0) 4 2 ?_))
    refine k_op (owp_run (.bool ((x0.Peer.Addr == x1.Peer.Addr) && ((x0.Peer.Seq == x1.Peer.Seq) && true))) (run_eqAgg (xs := #[.string x0.Peer.Addr, .int .i64 x0.Peer.Seq]) (ys := #[.string x1.Peer.Addr, .int .i64 x1.Peer.Seq]) (by kernel_rfl) (by kernel_rfl) (by kernel_rfl) (eqB_run (b := ((x0.Peer.Addr == x1.Peer.Addr) && ((x0.Peer.Seq == x1.Peer.Seq) && true))) (by kernel_rfl))) ?_)
    refine st 3 [] ?_
    refine k_retQ ?_
    obtain rfl := Option.some.inj H
    exact ⟨_, by kernel_rfl, I, _, ⟨rfl, rfl⟩, hs.pk .n⟩
  ·refine st 17 [] ?_
   refine k_retQ ?_
   obtain rfl := Option.some.inj H
   exact ⟨_, by kernel_rfl, I, _, ⟨rfl, rfl⟩, hs.pk .n⟩

/-! shutter/shutterlaw21.RoamNewest -/
def shutterlaw21_RoamNewest.l1.m (K : Nat) (x0 : (List Int)) (x1 : (List shutterlaw21_Mail)) : Nat → Int → ByteArray → (List Bool) → Int → (List Int) → Int → Int → Int → ByteArray → Int → Option (Bool ⊕ (Int × (List Int) × Int × Int × Int × ByteArray × Int))
  | 0, _, _, _, _, _, _, _, _, _, _ => none
  | k + 1, x39, x40, x41, x46, x47, x52, x53, x54, x55, x56 => (if x46 < (x1.length : Int) then (if 0 ≤ x46 then ((shutterref19_Seal.m K x0 (⟨1, (w64 (1 + (Int.tmod (w64 ((at_ x1 x46).Seq)) 500))), [(IntKind.u8.wrap (x46))]⟩ : api_Frame)).bind fun t78 => (letJ (α := (List Int) → Option (Bool ⊕ (Int × (List Int) × Int × Int × Int × ByteArray × Int))) (fun (x95 : List Int) => (letJ (α := (List Int) → Int → Int → Int → ByteArray → Int → (List Int) → GoErr → Option (Bool ⊕ (Int × (List Int) × Int × Int × Int × ByteArray × Int))) (fun (x129 : List Int) (x134 : Int) (x135 : Int) (x136 : Int) (x137 : ByteArray) (x138 : Int) (x139 : List Int) (x144 : GoErr) => (letJ (α := Bool → Option (Bool ⊕ (Int × (List Int) × Int × Int × Int × ByteArray × Int))) (fun (x151 : Bool) => (bif x151 then ((shutterlaw21_same.m K (⟨x129, x134, (⟨x135, x136⟩ : api_Seen), (⟨x137, x138⟩ : api_Peer)⟩ : roam_Gate) (⟨x47, x52, (⟨x53, x54⟩ : api_Seen), (⟨x55, x56⟩ : api_Peer)⟩ : roam_Gate)).bind fun t153 => bif t153 then (if (x139.length : Int) = 0 then (bif (at_ x1 x46).Forged then (shutterlaw21_RoamNewest.l1.m K x0 x1 k x39 x40 x41 (w64 (x46 + 1)) x47 x52 x53 x54 x55 x56) else (if (w64 (1 + (Int.tmod (w64 ((at_ x1 x46).Seq)) 500))) > x39 then (some (Sum.inl false)) else (shutterlaw21_RoamNewest.l1.m K x0 x1 k x39 x40 x41 (w64 (x46 + 1)) x47 x52 x53 x54 x55 x56))) else (some (Sum.inl false))) else (some (Sum.inl false))) else (bif (at_ x1 x46).Forged then (some (Sum.inl false)) else (if 0 ≤ (w64 (1 + (Int.tmod (w64 ((at_ x1 x46).Seq)) 500))) then (if (w64 (1 + (Int.tmod (w64 ((at_ x1 x46).Seq)) 500))) < (x41.length : Int) then (bif (at_ x41 (w64 (1 + (Int.tmod (w64 ((at_ x1 x46).Seq)) 500)))) then (some (Sum.inl false)) else (if (x139.length : Int) = 1 then (if 0 < (x139.length : Int) then (if (at_ x139 0) = (IntKind.u8.wrap (x46)) then (letJ (α := Int → ByteArray → Option (Bool ⊕ (Int × (List Int) × Int × Int × Int × ByteArray × Int))) (fun (x180 : Int) (x181 : ByteArray) => (bif ((x137 == x181) && ((x138 == x180) && true)) then (shutterlaw21_RoamNewest.l1.m K x0 x1 k x180 x181 (x41.set (w64 (1 + (Int.tmod (w64 ((at_ x1 x46).Seq)) 500))).toNat true) (w64 (x46 + 1)) x129 x134 x135 x136 x137 x138) else (some (Sum.inl false)))) fun (j182 : Int → ByteArray → Option (Bool ⊕ (Int × (List Int) × Int × Int × Int × ByteArray × Int))) => (if (w64 (1 + (Int.tmod (w64 ((at_ x1 x46).Seq)) 500))) > x39 then (j182 (w64 (1 + (Int.tmod (w64 ((at_ x1 x46).Seq)) 500))) ((at_ x1 x46).From)) else (j182 x39 x40))) else (some (Sum.inl false))) else none) else (some (Sum.inl false)))) else none) else none)))) fun (j152 : Bool → Option (Bool ⊕ (Int × (List Int) × Int × Int × Int × ByteArray × Int))) => (if x144 = GoErr.nil then (j152 false) else (j152 true)))) fun (j147 : (List Int) → Int → Int → Int → ByteArray → Int → (List Int) → GoErr → Option (Bool ⊕ (Int × (List Int) × Int × Int × Int × ByteArray × Int))) => ((roam_Gate_Come.m K (⟨x47, x52, (⟨x53, x54⟩ : api_Seen), (⟨x55, x56⟩ : api_Peer)⟩ : roam_Gate) ((at_ x1 x46).From) x95).bind fun t104 => (j147 t104.1.Key t104.1.Dir t104.1.Seen.Top t104.1.Seen.Bits t104.1.Peer.Addr t104.1.Peer.Seq t104.2.1 t104.2.2)))) fun (j100 : (List Int) → Option (Bool ⊕ (Int × (List Int) × Int × Int × Int × ByteArray × Int))) => (letJ (α := Bool → Option (Bool ⊕ (Int × (List Int) × Int × Int × Int × ByteArray × Int))) (fun (x87 : Bool) => (bif x87 then (if 0 ≤ (w64 ((t78.length : Int) - 1)) then (if (w64 ((t78.length : Int) - 1)) < (t78.length : Int) then (j100 (t78.set (w64 ((t78.length : Int) - 1)).toNat (bXor .u8 (at_ t78 (w64 ((t78.length : Int) - 1))) 1))) else none) else none) else (j100 t78))) fun (j88 : Bool → Option (Bool ⊕ (Int × (List Int) × Int × Int × Int × ByteArray × Int))) => (bif (at_ x1 x46).Forged then (j88 true) else (j88 false))))) else none) else (some (Sum.inr (x39, x47, x52, x53, x54, x55, x56))))
def shutterlaw21_RoamNewest.m (K : Nat) (x0 : (List Int)) (x1 : (List shutterlaw21_Mail)) : Option Bool :=
  ((shutterlaw21_awake.m K).bind fun t29 => bif t29 then (if (x0.length : Int) > 100 then ((shutterlaw21_awake.m K).bind fun t31 => (some t31)) else (if (x1.length : Int) > 40 then ((shutterlaw21_awake.m K).bind fun t33 => (some t33)) else ((mk 65536 false).bind fun l35 => ((shutterlaw21_RoamNewest.l1.m K x0 x1 K 0 (⟨#[]⟩ : ByteArray) l35 0 x0 1 0 0 (⟨#[]⟩ : ByteArray) 0).bind fun s57 => match s57 with | .inl q => (some q) | .inr (x58, x59, x64, x65, x66, x67, x68) => ((roam_Gate_Known.m (⟨x59, x64, (⟨x65, x66⟩ : api_Seen), (⟨x67, x68⟩ : api_Peer)⟩ : roam_Gate)).bind fun t189 => (some (t189 == (decide (x58 > 0))))))))) else ((shutterlaw21_awake.m K).bind fun t190 => (some t190)))

theorem shutterlaw21_RoamNewest.calls {B I : Gh} {h : Heap} {K : Nat} {x0 : (List Int)} {x1 : (List shutterlaw21_Mail)} {a21 : Option Addr} {p22 : Nat} {n23 : Nat} {a25 : Option Addr} {p26 : Nat} {n27 : Nat} {r : Bool} (H : shutterlaw21_RoamNewest.m K x0 x1 = some r)  :
    Fc Tryd.prog 7 #[.slice a21 n23 p22, .slice a25 n27 p26] [rR (tInt .u8) .i a21 p22 n23 x0, rR t_shutterlaw21_Mail .b a25 p26 n27 x1, rG] B I h (fun v L => v = .bool r ∧ L = []) := by
 refine fc_of fun E hs => ?_
 unfold shutterlaw21_RoamNewest.m at H
 obtain rfl := hs.nR d0
 obtain rfl := hs.nR d1
 refine fn_of (args := [.slice a21 x0.length p22, .slice a25 x1.length p26]) (rs := [.tmp 4]) (N := 153) Tryd.func7 rfl rfl rfl rfl ?_
 obtain ⟨hk, bk⟩ := hs.call tk0 (.c (gK d2) .n)
 refine st 7 [] (k_call H (fun _ m => shutterlaw21_awake.calls m hk) ?_)
 rintro t29 _ h H ⟨I, _, ⟨rfl, rfl⟩, hk⟩
 replace hs := bk hk ct0 rfl
 cases t29
 ·rw [cond_false] at H
  obtain ⟨hk, bk⟩ := hs.call tk0 (.c (gK d2) .n)
  refine st 15 [true] (k_call H (fun _ m => shutterlaw21_awake.calls m hk) ?_)
  rintro t190 _ h H ⟨I, _, ⟨rfl, rfl⟩, hk⟩
  replace hs := bk hk ct0 rfl
  refine st 2 [] ?_
  refine k_retQ ?_
  obtain rfl := Option.some.inj H
  exact ⟨_, by kernel_rfl, I, _, ⟨rfl, rfl⟩, hs.pk .n⟩
 ·rw [cond_true] at H
  refine st 4 [] (k_ite H (fun c30 H => ?_) (fun c30 H => ?_))
  ·obtain ⟨hk, bk⟩ := hs.call tk0 (.c (gK d2) .n)
   refine st 10 [true] (k_call H (fun _ m => shutterlaw21_awake.calls m hk) ?_)
   rintro t31 _ h H ⟨I, _, ⟨rfl, rfl⟩, hk⟩
   replace hs := bk hk ct0 rfl
   refine st 2 [] ?_
   refine k_retQ ?_
   obtain rfl := Option.some.inj H
   exact ⟨_, by kernel_rfl, I, _, ⟨rfl, rfl⟩, hs.pk .n⟩
  ·refine st 4 [] (k_ite H (fun c32 H => ?_) (fun c32 H => ?_))
   ·obtain ⟨hk, bk⟩ := hs.call tk0 (.c (gK d2) .n)
    refine st 5 [true] (k_call H (fun _ m => shutterlaw21_awake.calls m hk) ?_)
    rintro t33 _ h H ⟨I, _, ⟨rfl, rfl⟩, hk⟩
    replace hs := bk hk ct0 rfl
    refine st 2 [] ?_
    refine k_retQ ?_
    obtain rfl := Option.some.inj H
    exact ⟨_, by kernel_rfl, I, _, ⟨rfl, rfl⟩, hs.pk .n⟩
   ·refine st 8 [false] (k_op (nA hs [.slice none 0 0, .int .i64 0, .int .i64 0, .int .u64 0, .string (⟨#[]⟩ : ByteArray), .int .i64 0] (.agg #[.slice none 0 0, .int .i64 0, .int .i64 0, .int .u64 0, .string (⟨#[]⟩ : ByteArray), .int .i64 0]) ?_))
    intro b34 h hs
    refine k_op (sN hs 0 [.slice a21 x0.length p22, .int .i64 1, .int .i64 0, .int .u64 0, .string (⟨#[]⟩ : ByteArray), .int .i64 0] [.slice a21 x0.length p22, .int .i64 1, .int .i64 0, .int .u64 0, .string (⟨#[]⟩ : ByteArray), .int .i64 0] (ones_of rfl) ?_)
    intro h hs
    obtain ⟨l35, m36, H⟩ := bind_some H
    refine st 11 [] (k_op (nM (e := 4) (kl := .i64) (kc := .i64) (bytes := 1) hs tBool false (.bool false) m36 (fun _ _ => rfl) ?_))
    intro b37 h hs
    refine st 8 [] ?_
    replace hs := hs.dup d2 (fun _ x => x)
    obtain ⟨s57, m70, HR69⟩ := bind_some H
    refine k_loop 0 (fun k' ρ h => ∃ (x39 : Int) (x40 : ByteArray) (x41 : List Bool) (x46 : Int) (x47 : List Int) (x52 : Int) (x53 : Int) (x54 : Int) (x55 : ByteArray) (x56 : Int) (a42 : Option Addr) (p43 : Nat) (n44 : Nat) (a48 : Option Addr) (p49 : Nat) (n50 : Nat) (I : Gh), shutterlaw21_RoamNewest.l1.m K x0 x1 k' x39 x40 x41 x46 x47 x52 x53 x54 x55 x56 = some s57 ∧ Fits [(0, .slice a21 x0.length p22), (1, .slice a25 x1.length p26), (5, .pointer (some ⟨b34, 0, none⟩)), (6, .int .i64 x39), (7, .string x40), (8, .slice a42 n44 p43), (9, .int .i64 x46)] ρ ∧ St E [rR (tInt .u8) .i a21 p22 x0.length x0, rR t_shutterlaw21_Mail .b a25 p26 x1.length x1, rO tBool .i a42 p43 n44 x41, rR (tInt .u8) .i a48 p49 n50 x47, rB b34 [.slice a48 n50 p49, .int .i64 x52, .int .i64 x53, .int .u64 x54, .string x55, .int .i64 x56] 63, rG] I h) (fun ρ h => ∃ (x58 : Int) (x59 : List Int) (x64 : Int) (x65 : Int) (x66 : Int) (x67 : ByteArray) (x68 : Int) (a60 : Option Addr) (p61 : Nat) (n62 : Nat) (I : Gh), Sum.inr (x58, x59, x64, x65, x66, x67, x68) = s57 ∧ Fits [(5, .pointer (some ⟨b34, 0, none⟩)), (6, .int .i64 x58)] ρ ∧ St E [rR (tInt .u8) .i a60 p61 n62 x59, rB b34 [.slice a60 n62 p61, .int .i64 x64, .int .i64 x65, .int .u64 x66, .string x67, .int .i64 x68] 63, rG] I h) K ⟨0, (⟨#[]⟩ : ByteArray), l35, 0, x0, 1, 0, 0, (⟨#[]⟩ : ByteArray), 0, (some ⟨b37, 0, none⟩), l35.length, l35.length, a21, p22, x0.length, I, m70, ⟨by kernel_rfl, by kernel_rfl, by kernel_rfl, by kernel_rfl, by kernel_rfl, by kernel_rfl, by kernel_rfl, trivial⟩, hs.pk (.c d3 (.c d3 (.c d1 (.c d0 (.c d0 (.c d0 .n))))))⟩ ?_ rfl ?_
    ·clear m70 H
     rintro k' ρ h ⟨x39, x40, x41, x46, x47, x52, x53, x54, x55, x56, a42, p43, n44, a48, p49, n50, I, H, hf, hs⟩
     cases k' with
     | zero => cases H
     | succ k =>
      rw [shutterlaw21_RoamNewest.l1.m] at H
      refine k_fits _ hf ?_ rfl
      obtain rfl := hs.nO d2
      obtain rfl := hs.nR d3
      refine st 6 [] (k_ite H (fun c71 H => ?_) (fun c71 H => ?_))
      ·obtain ⟨c72, H⟩ := guard_pos H
       refine st 9 [true] (k_val (elemPtr a25 (x46.toNat * 3)) (pI (e := 67) (ik := .i64) (hs.sR d1) c72 c71) ?_)
       refine k_val (elemPtr a25 (x46.toNat * 3 + 0)) (pF (off := 0) (hs.sR d1) c72 c71) ?_
       obtain ⟨y74, g73, q75⟩ := (hs.sR d1).toSl.seg c72 c71
       obtain rfl := t_shutterlaw21_Mail.open_ q75
       refine k_op (lC (seg_cell (f := 0) g73 rfl) ?_)
       refine st 11 [] (k_op (nS (e := 5) hs .i (tInt .u8) ([(IntKind.u8.wrap (x46))] : List Int) [.int .u8 (IntKind.u8.wrap (x46))] 1 (.int .u8 0) (Reps.int (I := (Cl.G .i E.B I)) (k := .u8) (l := [(IntKind.u8.wrap (x46))])) ?_))
       intro b76 h hs
       obtain ⟨hk, bk⟩ := hs.call tk0 (.c (qI d1) (.c (qO d0) .n))
       refine st 1 [] (k_call H (fun _ m => shutterref19_Seal.calls m hk) ?_)
       rintro t78 _ h H ⟨I, _, ⟨a79, p80, n81, rfl, rfl⟩, hk⟩
       replace hs := bk hk ct1 rfl
       obtain rfl := hs.nO d0
       refine st 3 [] ?_
       obtain ⟨j100, e187, H⟩ := letJ_some H
       refine k_join (fun ρ h => ∃ (x95 : List Int) (a96 : Option Addr) (p97 : Nat) (n98 : Nat) (I : Gh), j100 x95 = some s57 ∧ Fits [(0, .slice a21 x0.length p22), (1, .slice a25 x1.length p26), (5, .pointer (some ⟨b34, 0, none⟩)), (6, .int .i64 x39), (7, .string x40), (8, .slice a42 x41.length p43), (9, .int .i64 x46), (10, .int .i64 (w64 (1 + (Int.tmod (w64 ((at_ x1 x46).Seq)) 500)))), (11, .slice a96 n98 p97)] ρ ∧ St E [rR (tInt .u8) .i a21 p22 x0.length x0, rR t_shutterlaw21_Mail .b a25 p26 x1.length x1, rO tBool .i a42 p43 x41.length x41, rO (tInt .u8) .i a96 p97 n98 x95, rR (tInt .u8) .i a48 p49 x47.length x47, rB b34 [.slice a48 x47.length p49, .int .i64 x52, .int .i64 x53, .int .u64 x54, .string x55, .int .i64 x56] 63, rG] I h) ?_ ?_
       ·refine st 1 [] ?_
        obtain ⟨j88, e94, H⟩ := letJ_some H
        refine k_join (fun ρ h => ∃ (x87 : Bool) (I : Gh), j88 x87 = some s57 ∧ Fits [(0, .slice a21 x0.length p22), (1, .slice a25 x1.length p26), (5, .pointer (some ⟨b34, 0, none⟩)), (6, .int .i64 x39), (7, .string x40), (8, .slice a42 x41.length p43), (9, .int .i64 x46), (10, .int .i64 (w64 (1 + (Int.tmod (w64 ((at_ x1 x46).Seq)) 500)))), (11, .slice a79 t78.length p80), (56, .bool x87)] ρ ∧ St E [rR (tInt .u8) .i a21 p22 x0.length x0, rR t_shutterlaw21_Mail .b a25 p26 x1.length x1, rO tBool .i a42 p43 x41.length x41, rO (tInt .u8) .i a79 p80 t78.length t78, rR (tInt .u8) .i a48 p49 x47.length x47, rB b34 [.slice a48 x47.length p49, .int .i64 x52, .int .i64 x53, .int .u64 x54, .string x55, .int .i64 x56] 63, rG] I h) ?_ ?_
        ·refine st 3 [] (k_val (elemPtr a25 (x46.toNat * 3)) (pI (e := 67) (ik := .i64) (hs.sR d3) c72 c71) ?_)
         refine k_val (elemPtr a25 (x46.toNat * 3 + 2)) (pF (off := 2) (hs.sR d3) c72 c71) ?_
         obtain ⟨y84, g83, q85⟩ := (hs.sR d3).toSl.seg c72 c71
         obtain rfl := t_shutterlaw21_Mail.open_ q85
         refine k_op (lC (seg_cell (f := 2) g83 rfl) ?_)
         refine k_spl H (fun c86 H => ?_) (fun c86 H => ?_)
         ·refine st 1 [] ?_
          exact k_end ⟨true, I, H, ⟨by kernel_rfl, by kernel_rfl, by kernel_rfl, by kernel_rfl, by kernel_rfl, by kernel_rfl, by kernel_rfl, by kernel_rfl, by kernel_rfl, by kernel_rfl, trivial⟩, hs.pk (.c d2 (.c d2 (.c d2 (.c d0 (.c d1 (.c d1 (.c d1 .n)))))))⟩
         ·refine st 1 [] ?_
          exact k_end ⟨false, I, H, ⟨by kernel_rfl, by kernel_rfl, by kernel_rfl, by kernel_rfl, by kernel_rfl, by kernel_rfl, by kernel_rfl, by kernel_rfl, by kernel_rfl, by kernel_rfl, trivial⟩, hs.pk (.c d2 (.c d2 (.c d2 (.c d0 (.c d1 (.c d1 (.c d1 .n)))))))⟩
        ·clear H
         rintro ρ h ⟨x87, I, H, hf, hs⟩
         refine k_fits _ hf ?_ rfl
         subst e94
         try dsimp only at H
         cases x87
         ·rw [cond_false] at H
          refine st 2 [false] ?_
          exact k_end ⟨t78, a79, p80, t78.length, I, H, ⟨by kernel_rfl, by kernel_rfl, by kernel_rfl, by kernel_rfl, by kernel_rfl, by kernel_rfl, by kernel_rfl, by kernel_rfl, by kernel_rfl, trivial⟩, hs.pk (.c d0 (.c d0 (.c d0 (.c d0 (.c d0 (.c d0 (.c d0 .n)))))))⟩
         ·rw [cond_true] at H
          obtain ⟨c89, H⟩ := guard_pos H
          obtain ⟨c90, H⟩ := guard_pos H
          refine st 10 [true] (k_val (elemPtr a79 ((w64 ((t78.length : Int) - 1)).toNat * 1)) (pI (e := 5) (ik := .i64) (hs.sO d3) c89 c90) ?_)
          refine k_op (lC ((hs.sO d3).cell1 c89 c90) ?_)
          refine st 1 [] (k_val (elemPtr a79 ((w64 ((t78.length : Int) - 1)).toNat * 1)) (pI (e := 5) (ik := .i64) (hs.sO d3) c89 c90) ?_)
          obtain ⟨y92, g91, q93⟩ := (hs.sO d3).toSl.seg c89 c90
          obtain rfl := rep_int q93
          replace hs := (hs.f d3)
          refine k_op (sE hs 0 [.int .u8 (bXor .u8 (at_ t78 (w64 ((t78.length : Int) - 1))) 1)] (bXor .u8 (at_ t78 (w64 ((t78.length : Int) - 1))) 1) c89 c90 g91 (ones_of rfl) rfl ?_)
          intro h hs
          refine st 1 [] ?_
          exact k_end ⟨(t78.set (w64 ((t78.length : Int) - 1)).toNat (bXor .u8 (at_ t78 (w64 ((t78.length : Int) - 1))) 1)), a79, p80, t78.length, I, H, ⟨by kernel_rfl, by kernel_rfl, by kernel_rfl, by kernel_rfl, by kernel_rfl, by kernel_rfl, by kernel_rfl, by kernel_rfl, by kernel_rfl, trivial⟩, hs.pk (.c d1 (.c d1 (.c d1 (.c d0 (.c d0 (.c d0 (.c d0 .n)))))))⟩
       ·clear H
        rintro ρ h ⟨x95, a96, p97, n98, I, H, hf, hs⟩
        refine k_fits _ hf ?_ rfl
        subst e187
        try dsimp only at H
        obtain rfl := hs.nO d3
        refine st 1 [] ?_
        obtain ⟨j147, e186, H⟩ := letJ_some H
        refine k_join (fun ρ h => ∃ (x129 : List Int) (x134 : Int) (x135 : Int) (x136 : Int) (x137 : ByteArray) (x138 : Int) (x139 : List Int) (x144 : GoErr) (b128 : Nat) (a130 : Option Addr) (p131 : Nat) (n132 : Nat) (a140 : Option Addr) (p141 : Nat) (n142 : Nat) (v145 : Value) (I : Gh), j147 x129 x134 x135 x136 x137 x138 x139 x144 = some s57 ∧ Fits [(0, .slice a21 x0.length p22), (1, .slice a25 x1.length p26), (5, .pointer (some ⟨b34, 0, none⟩)), (6, .int .i64 x39), (7, .string x40), (8, .slice a42 x41.length p43), (9, .int .i64 x46), (10, .int .i64 (w64 (1 + (Int.tmod (w64 ((at_ x1 x46).Seq)) 500)))), (12, .pointer (some ⟨b128, 0, none⟩)), (13, .slice a140 n142 p141), (14, v145)] ρ ∧ St E [rR (tInt .u8) .i a21 p22 x0.length x0, rR t_shutterlaw21_Mail .b a25 p26 x1.length x1, rO tBool .i a42 p43 x41.length x41, rR (tInt .u8) .i a130 p131 n132 x129, rB b128 [.slice a130 n132 p131, .int .i64 x134, .int .i64 x135, .int .u64 x136, .string x137, .int .i64 x138] 63, rO (tInt .u8) .i a140 p141 n142 x139, rE .i v145 x144, rR (tInt .u8) .i a48 p49 x47.length x47, rB b34 [.slice a48 x47.length p49, .int .i64 x52, .int .i64 x53, .int .u64 x54, .string x55, .int .i64 x56] 63, rG] I h) ?_ ?_
        ·obtain ⟨hs0, bk0⟩ := hs.call tk0 (.c (qL d5) (.c (qB d1) (.c (qK d4) (.c (qO d3) .n))))
         have hs := hs0
         refine k_regD hs0 15 ?_
         refine aG 0 rfl hs.keep (lls hs0 d0 0 6 rfl) (nmL hs0 d0) ?_
         refine aRun [1, 2] 13 hs.keep ?_
         refine aP 3 (elemPtr a25 (x46.toNat * 3)) rfl (pI (e := 67) (ik := .i64) (hs.sR d1) c72 c71) hs.keep ?_
         refine aP 4 (elemPtr a25 (x46.toNat * 3 + 1)) rfl (pF (off := 1) (hs.sR d1) c72 c71) hs.keep ?_
         obtain ⟨y102, g101, q103⟩ := (hs0.sR d1).toSl.seg c72 c71
         obtain rfl := t_shutterlaw21_Mail.open_ q103
         refine aL 5 rfl hs.keep (seg_cell (f := 1) g101 rfl) (nmR hs0 d1 c72 c71) ?_
         refine aRun [6] 9 hs.keep ?_
         refine aT2 7 12 ?_ ?_
         ·obtain ⟨hk, bk⟩ := hs.call tk0 (.c (qK d2) (.c (qB d3) .n))
          refine aA rfl (o_call H (fun _ m => roam_Gate_Come.calls m hk) ?_)
          rintro t104 _ h H ⟨I, _, ⟨a105, p106, n107, a109, p110, n111, v113, rfl, rfl⟩, hk⟩
          replace hs := bk hk ct3 rfl
          obtain rfl := hs.nR d0
          obtain rfl := hs.nO d1
          refine ⟨hs.keep, ?_⟩
          refine aRun [8, 9, 10, 11] 4 hs.keep ?_
          refine aO1 12 rfl (nA hs [.slice none 0 0, .int .i64 0, .int .i64 0, .int .u64 0, .string (⟨#[]⟩ : ByteArray), .int .i64 0] (.agg #[.slice none 0 0, .int .i64 0, .int .i64 0, .int .u64 0, .string (⟨#[]⟩ : ByteArray), .int .i64 0]) ?_)
          intro b115 h hs
          refine ⟨hs.keep, ?_⟩
          refine aO1 13 rfl (sN hs 0 [.slice a105 t104.1.Key.length p106, .int .i64 t104.1.Dir, .int .i64 t104.1.Seen.Top, .int .u64 t104.1.Seen.Bits, .string t104.1.Peer.Addr, .int .i64 t104.1.Peer.Seq] [.slice a105 t104.1.Key.length p106, .int .i64 t104.1.Dir, .int .i64 t104.1.Seen.Top, .int .u64 t104.1.Seen.Bits, .string t104.1.Peer.Addr, .int .i64 t104.1.Peer.Seq] (ones_of rfl) ?_)
          intro h hs
          refine ⟨hs.keep, ?_⟩
          refine aRun [14] 1 hs.keep ?_
          replace hs := hs.pk (.c d0 (.c d0 (.c d0 (.c d0 .n))))
          replace hs := bk0 hs ct4 rfl
          refine aOL 15 rfl (owp_pure v113 (by kernel_rfl) ?_)
          refine aEnd ?_
          exact k_end ⟨t104.1.Key, t104.1.Dir, t104.1.Seen.Top, t104.1.Seen.Bits, t104.1.Peer.Addr, t104.1.Peer.Seq, t104.2.1, t104.2.2, b115, a105, p106, t104.1.Key.length, a109, p110, t104.2.1.length, v113, I, H, ⟨by kernel_rfl, by kernel_rfl, by kernel_rfl, by kernel_rfl, by kernel_rfl, by kernel_rfl, by kernel_rfl, by kernel_rfl, by kernel_rfl, by kernel_rfl, by kernel_rfl, trivial⟩, hs.pk (.c d4 (.c d4 (.c d4 (.c d1 (.c d0 (.c d0 (.c d0 (.c d1 (.c d1 (.c d1 .n))))))))))⟩
         ·refine aA rfl (nA hs [.slice none 0 0, .int .i64 0, .int .i64 0, .int .u64 0, .string (⟨#[]⟩ : ByteArray), .int .i64 0] (.agg #[.slice none 0 0, .int .i64 0, .int .i64 0, .int .u64 0, .string (⟨#[]⟩ : ByteArray), .int .i64 0]) ?_)
          intro b116 h hs
          refine ⟨hs.keep, ?_⟩
          obtain ⟨hk, bk⟩ := hs.call tk0 (.c (qK d3) (.c (qB d4) .n))
          refine aO1 7 rfl (o_call H (fun _ m => roam_Gate_Come.calls m hk) ?_)
          rintro t117 _ h H ⟨I, _, ⟨a118, p119, n120, a122, p123, n124, v126, rfl, rfl⟩, hk⟩
          replace hs := bk hk ct3 rfl
          obtain rfl := hs.nR d0
          obtain rfl := hs.nO d1
          refine ⟨hs.keep, ?_⟩
          refine aRun [8, 9, 10, 11] 3 hs.keep ?_
          refine aO1 13 rfl (sN (hs.f d3) 0 [.slice a118 t117.1.Key.length p119, .int .i64 t117.1.Dir, .int .i64 t117.1.Seen.Top, .int .u64 t117.1.Seen.Bits, .string t117.1.Peer.Addr, .int .i64 t117.1.Peer.Seq] [.slice a118 t117.1.Key.length p119, .int .i64 t117.1.Dir, .int .i64 t117.1.Seen.Top, .int .u64 t117.1.Seen.Bits, .string t117.1.Peer.Addr, .int .i64 t117.1.Peer.Seq] (ones_of rfl) ?_)
          intro h hs
          refine ⟨hs.keep, ?_⟩
          refine aRun [14] 1 hs.keep ?_
          replace hs := hs.pk (.c d0 (.c d0 (.c d0 (.c d0 .n))))
          replace hs := bk0 hs ct4 rfl
          refine aOL 15 rfl (owp_pure v126 (by kernel_rfl) ?_)
          refine aEnd ?_
          exact k_end ⟨t117.1.Key, t117.1.Dir, t117.1.Seen.Top, t117.1.Seen.Bits, t117.1.Peer.Addr, t117.1.Peer.Seq, t117.2.1, t117.2.2, b116, a118, p119, t117.1.Key.length, a122, p123, t117.2.1.length, v126, I, H, ⟨by kernel_rfl, by kernel_rfl, by kernel_rfl, by kernel_rfl, by kernel_rfl, by kernel_rfl, by kernel_rfl, by kernel_rfl, by kernel_rfl, by kernel_rfl, by kernel_rfl, trivial⟩, hs.pk (.c d4 (.c d4 (.c d4 (.c d1 (.c d0 (.c d0 (.c d0 (.c d1 (.c d1 (.c d1 .n))))))))))⟩
        ·clear H
         rintro ρ h ⟨x129, x134, x135, x136, x137, x138, x139, x144, b128, a130, p131, n132, a140, p141, n142, v145, I, H, hf, hs⟩
         refine k_fits _ hf ?_ rfl
         subst e186
         try dsimp only at H
         obtain rfl := hs.nR d3
         obtain rfl := hs.nO d5
         refine st 2 [] ?_
         obtain ⟨j152, e185, H⟩ := letJ_some H
         refine k_join (fun ρ h => ∃ (x151 : Bool) (I : Gh), j152 x151 = some s57 ∧ Fits [(0, .slice a21 x0.length p22), (1, .slice a25 x1.length p26), (5, .pointer (some ⟨b34, 0, none⟩)), (6, .int .i64 x39), (7, .string x40), (8, .slice a42 x41.length p43), (9, .int .i64 x46), (10, .int .i64 (w64 (1 + (Int.tmod (w64 ((at_ x1 x46).Seq)) 500)))), (12, .pointer (some ⟨b128, 0, none⟩)), (13, .slice a140 x139.length p141), (82, .bool x151)] ρ ∧ St E [rR (tInt .u8) .i a21 p22 x0.length x0, rR t_shutterlaw21_Mail .b a25 p26 x1.length x1, rO tBool .i a42 p43 x41.length x41, rO (tInt .u8) .i a140 p141 x139.length x139, rR (tInt .u8) .i a48 p49 x47.length x47, rB b34 [.slice a48 x47.length p49, .int .i64 x52, .int .i64 x53, .int .u64 x54, .string x55, .int .i64 x56] 63, rR (tInt .u8) .i a130 p131 x129.length x129, rB b128 [.slice a130 x129.length p131, .int .i64 x134, .int .i64 x135, .int .u64 x136, .string x137, .int .i64 x138] 63, rG] I h) ?_ ?_
         ·rcases (hs.er d6).cases with ⟨c148, rfl⟩ | ⟨c148, t149, u150, rfl⟩
          ·rw [if_pos c148] at H
           refine st 4 [] ?_
           exact k_end ⟨false, I, H, ⟨by kernel_rfl, by kernel_rfl, by kernel_rfl, by kernel_rfl, by kernel_rfl, by kernel_rfl, by kernel_rfl, by kernel_rfl, by kernel_rfl, by kernel_rfl, by kernel_rfl, trivial⟩, hs.pk (.c d0 (.c d0 (.c d0 (.c d2 (.c d3 (.c d3 (.c d0 (.c d0 (.c d1 .n)))))))))⟩
          ·rw [if_neg c148] at H
           refine st 4 [] ?_
           exact k_end ⟨true, I, H, ⟨by kernel_rfl, by kernel_rfl, by kernel_rfl, by kernel_rfl, by kernel_rfl, by kernel_rfl, by kernel_rfl, by kernel_rfl, by kernel_rfl, by kernel_rfl, by kernel_rfl, trivial⟩, hs.pk (.c d0 (.c d0 (.c d0 (.c d2 (.c d3 (.c d3 (.c d0 (.c d0 (.c d1 .n)))))))))⟩
         ·clear H
          rintro ρ h ⟨x151, I, H, hf, hs⟩
          refine k_fits _ hf ?_ rfl
          subst e185
          try dsimp only at H
          cases x151
          ·rw [cond_false] at H
           refine st 7 [false] (k_val (elemPtr a25 (x46.toNat * 3)) (pI (e := 67) (ik := .i64) (hs.sR d1) c72 c71) ?_)
           refine k_val (elemPtr a25 (x46.toNat * 3 + 2)) (pF (off := 2) (hs.sR d1) c72 c71) ?_
           obtain ⟨y161, g160, q162⟩ := (hs.sR d1).toSl.seg c72 c71
           obtain rfl := t_shutterlaw21_Mail.open_ q162
           refine k_op (lC (seg_cell (f := 2) g160 rfl) ?_)
           refine k_spl H (fun c163 H => ?_) (fun c163 H => ?_)
           ·refine st 25 [true] ?_
            refine k_retQ (krL ?_)
            obtain rfl := Option.some.inj H
            obtain rfl := Option.some.inj HR69
            exact ⟨_, by kernel_rfl, I, _, ⟨rfl, rfl⟩, hs.pk .n⟩
           ·obtain ⟨c164, H⟩ := guard_pos H
            obtain ⟨c165, H⟩ := guard_pos H
            refine st 3 [] (k_val (elemPtr a42 ((w64 (1 + (Int.tmod (w64 ((at_ x1 x46).Seq)) 500))).toNat * 1)) (pI (e := 4) (ik := .i64) (hs.sO d2) c164 c165) ?_)
            obtain ⟨y167, g166, q168⟩ := (hs.sO d2).toSl.seg c164 c165
            obtain rfl := rep_bool q168
            refine k_op (lC (seg_cell (f := 0) g166 rfl) ?_)
            refine k_spl H (fun c169 H => ?_) (fun c169 H => ?_)
            ·refine st 20 [true] ?_
             refine k_retQ (krL ?_)
             obtain rfl := Option.some.inj H
             obtain rfl := Option.some.inj HR69
             exact ⟨_, by kernel_rfl, I, _, ⟨rfl, rfl⟩, hs.pk .n⟩
            ·refine st 4 [] (k_iteN H (fun c170 H => ?_) (fun c170 H => ?_))
             ·obtain ⟨c171, H⟩ := guard_pos H
              refine st 3 [] (k_val (elemPtr a140 ((0 : Int).toNat * 1)) (pI (e := 5) (ik := .i64) (hs.sO d3) (by decide) c171) ?_)
              refine k_op (lC ((hs.sO d3).cell1 (by decide) c171) ?_)
              refine st 2 [] (k_iteN H (fun c172 H => ?_) (fun c172 H => ?_))
              ·refine st 8 [false] (k_val (elemPtr a42 ((w64 (1 + (Int.tmod (w64 ((at_ x1 x46).Seq)) 500))).toNat * 1)) (pI (e := 4) (ik := .i64) (hs.sO d2) c164 c165) ?_)
               obtain ⟨y174, g173, q175⟩ := (hs.sO d2).toSl.seg c164 c165
               obtain rfl := rep_bool q175
               replace hs := (hs.f d2)
               refine k_op (sE hs 0 [.bool true] true c164 c165 g173 (ones_of rfl) rfl ?_)
               intro h hs
               refine st 2 [] ?_
               obtain ⟨j182, e184, H⟩ := letJ_some H
               refine k_join (fun ρ h => ∃ (x180 : Int) (x181 : ByteArray) (I : Gh), j182 x180 x181 = some s57 ∧ Fits [(0, .slice a21 x0.length p22), (1, .slice a25 x1.length p26), (5, .pointer (some ⟨b34, 0, none⟩)), (6, .int .i64 x180), (7, .string x181), (8, .slice a42 x41.length p43), (9, .int .i64 x46), (12, .pointer (some ⟨b128, 0, none⟩)), (111, .slice a42 x41.length p43), (112, .int .i64 (w64 (1 + (Int.tmod (w64 ((at_ x1 x46).Seq)) 500)))), (114, .bool false), (117, .slice a140 x139.length p141), (118, .int .i64 (x139.length : Int)), (119, .bool false), (122, .slice a140 x139.length p141), (124, .int .u8 (at_ x139 0)), (125, .int .i64 x46), (126, .int .u8 (IntKind.u8.wrap (x46))), (127, .bool false)] ρ ∧ St E [rR (tInt .u8) .i a21 p22 x0.length x0, rR t_shutterlaw21_Mail .b a25 p26 x1.length x1, rO tBool .i a42 p43 x41.length (x41.set (w64 (1 + (Int.tmod (w64 ((at_ x1 x46).Seq)) 500))).toNat true), rO (tInt .u8) .i a140 p141 x139.length x139, rR (tInt .u8) .i a48 p49 x47.length x47, rB b34 [.slice a48 x47.length p49, .int .i64 x52, .int .i64 x53, .int .u64 x54, .string x55, .int .i64 x56] 63, rR (tInt .u8) .i a130 p131 x129.length x129, rB b128 [.slice a130 x129.length p131, .int .i64 x134, .int .i64 x135, .int .u64 x136, .string x137, .int .i64 x138] 63, rG] I h) ?_ ?_
               ·refine st 4 [] (k_ite H (fun c176 H => ?_) (fun c176 H => ?_))
                ·refine st 10 [true] (k_val (elemPtr a25 (x46.toNat * 3)) (pI (e := 67) (ik := .i64) (hs.sR d2) c72 c71) ?_)
                 refine k_val (elemPtr a25 (x46.toNat * 3 + 1)) (pF (off := 1) (hs.sR d2) c72 c71) ?_
                 obtain ⟨y178, g177, q179⟩ := (hs.sR d2).toSl.seg c72 c71
                 obtain rfl := t_shutterlaw21_Mail.open_ q179
                 refine k_op (lC (seg_cell (f := 1) g177 rfl) ?_)
                 refine st 2 [] ?_
                 exact k_end ⟨(w64 (1 + (Int.tmod (w64 ((at_ x1 x46).Seq)) 500))), (at_ x1 x46).From, I, H, ⟨by kernel_rfl, by kernel_rfl, by kernel_rfl, by kernel_rfl, by kernel_rfl, by kernel_rfl, by kernel_rfl, by kernel_rfl, by kernel_rfl, by kernel_rfl, by kernel_rfl, by kernel_rfl, by kernel_rfl, by kernel_rfl, by kernel_rfl, by kernel_rfl, by kernel_rfl, by kernel_rfl, by kernel_rfl, trivial⟩, hs.pk (.c d1 (.c d1 (.c d0 (.c d0 (.c d0 (.c d0 (.c d0 (.c d0 (.c d0 .n)))))))))⟩
                ·refine st 3 [false] ?_
                 exact k_end ⟨x39, x40, I, H, ⟨by kernel_rfl, by kernel_rfl, by kernel_rfl, by kernel_rfl, by kernel_rfl, by kernel_rfl, by kernel_rfl, by kernel_rfl, by kernel_rfl, by kernel_rfl, by kernel_rfl, by kernel_rfl, by kernel_rfl, by kernel_rfl, by kernel_rfl, by kernel_rfl, by kernel_rfl, by kernel_rfl, by kernel_rfl, trivial⟩, hs.pk (.c d1 (.c d1 (.c d0 (.c d0 (.c d0 (.c d0 (.c d0 (.c d0 (.c d0 .n)))))))))⟩
               ·clear H
                rintro ρ h ⟨x180, x181, I, H, hf, hs⟩
                refine k_fits _ hf ?_ rfl
                subst e184
                try dsimp only at H
                refine st 2 [] (k_op (lN (hs.bl d7) 0 6 ?_))
                refine k_op (sN (hs.f d5) 0 [.slice a130 x129.length p131, .int .i64 x134, .int .i64 x135, .int .u64 x136, .string x137, .int .i64 x138] [.slice a130 x129.length p131, .int .i64 x134, .int .i64 x135, .int .u64 x136, .string x137, .int .i64 x138] (ones_of rfl) ?_)
                intro h hs
                refine st 4 [] (k_op (lN (hs.bl d0) 4 2 ?_))
                rcases bool_or ((x137 == x181) && ((x138 == x180) && true)) with c183 | c183
                ·replace H := bif_f c183 H
                 refine st 3 [] (k_op (owp_run (.bool true) (run_bool (run_neAgg (xs := #[.string x137, .int .i64 x138]) (ys := #[.string x181, .int .i64 x180]) (by kernel_rfl) (by kernel_rfl) (by kernel_rfl) (eqB_run (b := ((x137 == x181) && ((x138 == x180) && true))) (by kernel_rfl))) (notB c183)) ?_))
                 refine st 6 [true] ?_
                 refine k_retQ (krL ?_)
                 obtain rfl := Option.some.inj H
                 obtain rfl := Option.some.inj HR69
                 exact ⟨_, by kernel_rfl, I, _, ⟨rfl, rfl⟩, hs.pk .n⟩
                ·replace H := bif_t c183 H
                 refine st 3 [] (k_op (owp_run (.bool false) (run_bool (run_neAgg (xs := #[.string x137, .int .i64 x138]) (ys := #[.string x181, .int .i64 x180]) (by kernel_rfl) (by kernel_rfl) (by kernel_rfl) (eqB_run (b := ((x137 == x181) && ((x138 == x180) && true))) (by kernel_rfl))) (notB c183)) ?_))
                 refine st 9 [false] ?_
                 exact k_endL ⟨k, Nat.lt_succ_self _, x180, x181, (x41.set (w64 (1 + (Int.tmod (w64 ((at_ x1 x46).Seq)) 500))).toNat true), (w64 (x46 + 1)), x129, x134, x135, x136, x137, x138, a42, p43, x41.length, a130, p131, x129.length, I, H, ⟨by kernel_rfl, by kernel_rfl, by kernel_rfl, by kernel_rfl, by kernel_rfl, by kernel_rfl, by kernel_rfl, trivial⟩, hs.pk (.c d1 (.c d1 (.c d1 (.c d3 (.c d0 (.c d3 .n))))))⟩
              ·refine st 7 [true] ?_
               refine k_retQ (krL ?_)
               obtain rfl := Option.some.inj H
               obtain rfl := Option.some.inj HR69
               exact ⟨_, by kernel_rfl, I, _, ⟨rfl, rfl⟩, hs.pk .n⟩
             ·refine st 15 [true] ?_
              refine k_retQ (krL ?_)
              obtain rfl := Option.some.inj H
              obtain rfl := Option.some.inj HR69
              exact ⟨_, by kernel_rfl, I, _, ⟨rfl, rfl⟩, hs.pk .n⟩
          ·rw [cond_true] at H
           refine st 4 [true] (k_op (lN (hs.bl d7) 0 6 ?_))
           refine k_op (lN (hs.bl d5) 0 6 ?_)
           obtain ⟨hk, bk⟩ := hs.call tk0 (.c (qI d6) (.c (qI d4) .n))
           refine k_call H (fun _ m => shutterlaw21_same.calls m hk) ?_
           rintro t153 _ h H ⟨I, _, ⟨rfl, rfl⟩, hk⟩
           replace hs := bk hk ct0 rfl
           cases t153
           ·rw [cond_false] at H
            refine st 25 [true] ?_
            refine k_retQ (krL ?_)
            obtain rfl := Option.some.inj H
            obtain rfl := Option.some.inj HR69
            exact ⟨_, by kernel_rfl, I, _, ⟨rfl, rfl⟩, hs.pk .n⟩
           ·rw [cond_true] at H
            refine st 4 [] (k_iteN H (fun c154 H => ?_) (fun c154 H => ?_))
            ·refine st 4 [] (k_val (elemPtr a25 (x46.toNat * 3)) (pI (e := 67) (ik := .i64) (hs.sR d1) c72 c71) ?_)
             refine k_val (elemPtr a25 (x46.toNat * 3 + 2)) (pF (off := 2) (hs.sR d1) c72 c71) ?_
             obtain ⟨y156, g155, q157⟩ := (hs.sR d1).toSl.seg c72 c71
             obtain rfl := t_shutterlaw21_Mail.open_ q157
             refine k_op (lC (seg_cell (f := 2) g155 rfl) ?_)
             refine k_spl H (fun c158 H => ?_) (fun c158 H => ?_)
             ·refine st 16 [false] ?_
              exact k_endL ⟨k, Nat.lt_succ_self _, x39, x40, x41, (w64 (x46 + 1)), x47, x52, x53, x54, x55, x56, a42, p43, x41.length, a48, p49, x47.length, I, H, ⟨by kernel_rfl, by kernel_rfl, by kernel_rfl, by kernel_rfl, by kernel_rfl, by kernel_rfl, by kernel_rfl, trivial⟩, hs.pk (.c d0 (.c d0 (.c d0 (.c d1 (.c d1 (.c d3 .n))))))⟩
             ·refine st 4 [] (k_ite H (fun c159 H => ?_) (fun c159 H => ?_))
              ·refine st 8 [true] ?_
               refine k_retQ (krL ?_)
               obtain rfl := Option.some.inj H
               obtain rfl := Option.some.inj HR69
               exact ⟨_, by kernel_rfl, I, _, ⟨rfl, rfl⟩, hs.pk .n⟩
              ·refine st 11 [false] ?_
               exact k_endL ⟨k, Nat.lt_succ_self _, x39, x40, x41, (w64 (x46 + 1)), x47, x52, x53, x54, x55, x56, a42, p43, x41.length, a48, p49, x47.length, I, H, ⟨by kernel_rfl, by kernel_rfl, by kernel_rfl, by kernel_rfl, by kernel_rfl, by kernel_rfl, by kernel_rfl, trivial⟩, hs.pk (.c d0 (.c d0 (.c d0 (.c d1 (.c d1 (.c d3 .n))))))⟩
            ·refine st 20 [true] ?_
             refine k_retQ (krL ?_)
             obtain rfl := Option.some.inj H
             obtain rfl := Option.some.inj HR69
             exact ⟨_, by kernel_rfl, I, _, ⟨rfl, rfl⟩, hs.pk .n⟩
      ·refine st 2 [false] ?_
       refine k_out rfl ?_
       obtain rfl := Option.some.inj H
       exact xE ⟨x39, x47, x52, x53, x54, x55, x56, a48, p49, x47.length, I, rfl, ⟨by kernel_rfl, by kernel_rfl, trivial⟩, hs.pk (.c d3 (.c d3 (.c d3 .n)))⟩
    ·rintro ρ h ⟨x58, x59, x64, x65, x66, x67, x68, a60, p61, n62, I, rfl, hf, hs⟩
     have H := HR69
     try dsimp only at H
     refine k_fits _ hf ?_ rfl
     obtain rfl := hs.nR d0
     refine st 2 [] (k_op (lN (hs.bl d1) 0 6 ?_))
     obtain ⟨hk, bk⟩ := hs.call tk0 (.c (qI d0) .n)
     refine k_call H (fun _ m => roam_Gate_Known.calls m hk) ?_
     rintro t189 _ h H ⟨I, _, ⟨rfl, rfl⟩, hk⟩
     replace hs := bk hk ct0 rfl
     refine st 5 [] ?_
     refine k_retQ ?_
     obtain rfl := Option.some.inj H
     exact ⟨_, by kernel_rfl, I, _, ⟨rfl, rfl⟩, hs.pk .n⟩

/-! shutter/shutterlaw21.RoamKeeps -/
def shutterlaw21_RoamKeeps.l1.m (K : Nat) : Nat → (List Int) → Int → Option (Unit)
  | 0, _, _ => none
  | k + 1, x72, x77 => (if x77 < (x72.length : Int) then (if 0 ≤ x77 then (shutterlaw21_RoamKeeps.l1.m K k (x72.set x77.toNat (bXor .u8 (at_ x72 x77) 255)) (w64 (x77 + 1))) else none) else (some (())))
def shutterlaw21_RoamKeeps.m (K : Nat) (x0 : (List Int)) (x1 : (List Int)) : Option Bool :=
  ((shutterlaw21_awake.m K).bind fun t29 => bif t29 then (if (x0.length : Int) > 100 then ((shutterlaw21_awake.m K).bind fun t31 => (some t31)) else (if (x1.length : Int) > 200 then ((shutterlaw21_awake.m K).bind fun t33 => (some t33)) else ((app [] x0).bind fun l36 => ((shutterref19_Seal.m K x0 (⟨0, 9, x1⟩ : api_Frame)).bind fun t42 => ((app [] t42).bind fun l49 => ((roam_Gate_Come.m K (⟨l36, 0, (⟨0, 0⟩ : api_Seen), (⟨(⟨#[]⟩ : ByteArray), 0⟩ : api_Peer)⟩ : roam_Gate) (⟨#[97]⟩ : ByteArray) t42).bind fun t54 => (if t54.2.2 = GoErr.nil then ((shutterref01_Same.m K t42 l49).bind fun t69 => bif t69 then ((shutterref01_Same.m K l36 x0).bind fun t70 => bif t70 then (bif ((0 == 0) && ((0 == 0) && true)) then ((shutterlaw21_RoamKeeps.l1.m K K t42 0).bind fun _ => ((shutterref01_Same.m K t54.2.1 x1).bind fun t86 => (some t86))) else (some false)) else (some false)) else (some false)) else (some false)))))))) else ((shutterlaw21_awake.m K).bind fun t87 => (some t87)))

theorem shutterlaw21_RoamKeeps.calls {B I : Gh} {h : Heap} {K : Nat} {x0 : (List Int)} {x1 : (List Int)} {a21 : Option Addr} {p22 : Nat} {n23 : Nat} {a25 : Option Addr} {p26 : Nat} {n27 : Nat} {r : Bool} (H : shutterlaw21_RoamKeeps.m K x0 x1 = some r)  :
    Fc Tryd.prog 8 #[.slice a21 n23 p22, .slice a25 n27 p26] [rR (tInt .u8) .b a21 p22 n23 x0, rR (tInt .u8) .b a25 p26 n27 x1, rG] B I h (fun v L => v = .bool r ∧ L = []) := by
 refine fc_of fun E hs => ?_
 unfold shutterlaw21_RoamKeeps.m at H
 obtain rfl := hs.nR d0
 obtain rfl := hs.nR d1
 refine fn_of (args := [.slice a21 x0.length p22, .slice a25 x1.length p26]) (rs := [.tmp 4]) (N := 81) Tryd.func8 rfl rfl rfl rfl ?_
 obtain ⟨hk, bk⟩ := hs.call tk0 (.c (gK d2) .n)
 refine st 7 [] (k_call H (fun _ m => shutterlaw21_awake.calls m hk) ?_)
 rintro t29 _ h H ⟨I, _, ⟨rfl, rfl⟩, hk⟩
 replace hs := bk hk ct0 rfl
 cases t29
 ·rw [cond_false] at H
  obtain ⟨hk, bk⟩ := hs.call tk0 (.c (gK d2) .n)
  refine st 15 [true] (k_call H (fun _ m => shutterlaw21_awake.calls m hk) ?_)
  rintro t87 _ h H ⟨I, _, ⟨rfl, rfl⟩, hk⟩
  replace hs := bk hk ct0 rfl
  refine st 2 [] ?_
  refine k_retQ ?_
  obtain rfl := Option.some.inj H
  exact ⟨_, by kernel_rfl, I, _, ⟨rfl, rfl⟩, hs.pk .n⟩
 ·rw [cond_true] at H
  refine st 4 [] (k_ite H (fun c30 H => ?_) (fun c30 H => ?_))
  ·obtain ⟨hk, bk⟩ := hs.call tk0 (.c (gK d2) .n)
   refine st 10 [true] (k_call H (fun _ m => shutterlaw21_awake.calls m hk) ?_)
   rintro t31 _ h H ⟨I, _, ⟨rfl, rfl⟩, hk⟩
   replace hs := bk hk ct0 rfl
   refine st 2 [] ?_
   refine k_retQ ?_
   obtain rfl := Option.some.inj H
   exact ⟨_, by kernel_rfl, I, _, ⟨rfl, rfl⟩, hs.pk .n⟩
  ·refine st 4 [] (k_ite H (fun c32 H => ?_) (fun c32 H => ?_))
   ·obtain ⟨hk, bk⟩ := hs.call tk0 (.c (gK d2) .n)
    refine st 5 [true] (k_call H (fun _ m => shutterlaw21_awake.calls m hk) ?_)
    rintro t33 _ h H ⟨I, _, ⟨rfl, rfl⟩, hk⟩
    replace hs := bk hk ct0 rfl
    refine st 2 [] ?_
    refine k_retQ ?_
    obtain rfl := Option.some.inj H
    exact ⟨_, by kernel_rfl, I, _, ⟨rfl, rfl⟩, hs.pk .n⟩
   ·refine st 6 [false] (k_op (nS (e := 5) hs .i (tInt .u8) ([] : List Int) [] 1 (.int .u8 0) (Reps.int (I := (Cl.G .i E.B I)) (k := .u8) (l := [])) ?_))
    intro b34 h hs
    obtain ⟨l36, m37, H⟩ := bind_some H
    refine st 1 [] (k_op (aO (e := 5) (bytes := 1) hs ((hs.sR d1).flat flat_int) m37 ?_))
    intro a38 p39 h hs
    refine st 1 [] (k_op (nA hs [.slice none 0 0, .int .i64 0, .int .i64 0, .int .u64 0, .string (⟨#[]⟩ : ByteArray), .int .i64 0] (.agg #[.slice none 0 0, .int .i64 0, .int .i64 0, .int .u64 0, .string (⟨#[]⟩ : ByteArray), .int .i64 0]) ?_))
    intro b41 h hs
    refine k_op (sN hs 0 [.slice a38 l36.length p39, .int .i64 0, .int .i64 0, .int .u64 0, .string (⟨#[]⟩ : ByteArray), .int .i64 0] [.slice a38 l36.length p39, .int .i64 0, .int .i64 0, .int .u64 0, .string (⟨#[]⟩ : ByteArray), .int .i64 0] (ones_of rfl) ?_)
    intro h hs
    obtain ⟨hk, bk⟩ := hs.call tk0 (.c (qB d2) (.c (qB d3) .n))
    refine st 6 [] (k_call H (fun _ m => shutterref19_Seal.calls m hk) ?_)
    rintro t42 _ h H ⟨I, _, ⟨a43, p44, n45, rfl, rfl⟩, hk⟩
    replace hs := bk hk ct1 rfl
    obtain rfl := hs.nO d0
    refine st 4 [] (k_op (nS (e := 5) hs .i (tInt .u8) ([] : List Int) [] 1 (.int .u8 0) (Reps.int (I := (Cl.G .i E.B I)) (k := .u8) (l := [])) ?_))
    intro b47 h hs
    obtain ⟨l49, m50, H⟩ := bind_some H
    refine st 1 [] (k_op (aO (e := 5) (bytes := 1) hs (hs.sO d1) m50 ?_))
    intro a51 p52 h hs
    refine st 4 [] (k_op (lN (hs.bl d2) 0 6 ?_))
    obtain ⟨I, hs⟩ := (hs.f d3).fO
    obtain ⟨hk, bk⟩ := hs.call tk0 (.c (qK d0) (.c (qO d2) .n))
    refine st 1 [] (k_call H (fun _ m => roam_Gate_Come.calls m hk) ?_)
    rintro t54 _ h H ⟨I, _, ⟨a55, p56, n57, a59, p60, n61, v63, rfl, rfl⟩, hk⟩
    replace hs := bk hk ct3 rfl
    obtain rfl := hs.nR d0
    obtain rfl := hs.nO d1
    refine st 4 [] (k_op (nA hs [.slice none 0 0, .int .i64 0, .int .i64 0, .int .u64 0, .string (⟨#[]⟩ : ByteArray), .int .i64 0] (.agg #[.slice none 0 0, .int .i64 0, .int .i64 0, .int .u64 0, .string (⟨#[]⟩ : ByteArray), .int .i64 0]) ?_))
    intro b65 h hs
    refine k_op (sN hs 0 [.slice a55 t54.1.Key.length p56, .int .i64 t54.1.Dir, .int .i64 t54.1.Seen.Top, .int .u64 t54.1.Seen.Bits, .string t54.1.Peer.Addr, .int .i64 t54.1.Peer.Seq] [.slice a55 t54.1.Key.length p56, .int .i64 t54.1.Dir, .int .i64 t54.1.Seen.Top, .int .u64 t54.1.Seen.Bits, .string t54.1.Peer.Addr, .int .i64 t54.1.Peer.Seq] (ones_of rfl) ?_)
    intro h hs
    rcases (hs.er d3).cases with ⟨c66, rfl⟩ | ⟨c66, t67, u68, rfl⟩
    ·rw [if_pos c66] at H
     refine st 11 [] (k_call H (fun _ m => shutterref01_Same.calls m (hs.sO d6) (hs.sO d5)) ?_)
     rintro t69 _ _ H ⟨rfl, rfl⟩
     cases t69
     ·rw [cond_false] at H
      refine st 21 [true] ?_
      refine k_retQ ?_
      obtain rfl := Option.some.inj H
      exact ⟨_, by kernel_rfl, I, _, ⟨rfl, rfl⟩, hs.pk .n⟩
     ·rw [cond_true] at H
      refine st 4 [] (k_op (lB (hs.bl d7) 0 rfl ?_))
      refine st 1 [] (k_call H (fun _ m => shutterref01_Same.calls m ((hs.sR d4)).up1 (hs.sR d8)) ?_)
      rintro t70 _ _ H ⟨rfl, rfl⟩
      cases t70
      ·rw [cond_false] at H
       refine st 14 [true] ?_
       refine k_retQ ?_
       obtain rfl := Option.some.inj H
       exact ⟨_, by kernel_rfl, I, _, ⟨rfl, rfl⟩, hs.pk .n⟩
      ·rw [cond_true] at H
       refine st 4 [] (k_op (lN (hs.bl d7) 2 2 ?_))
       rcases bool_or ((0 == 0) && ((0 == 0) && true)) with c71 | c71
       ·replace H := bif_f c71 H
        refine st 1 [] (k_op (owp_run (.bool true) (run_bool (run_neAgg (xs := #[.int .i64 0, .int .u64 0]) (ys := #[.int .i64 0, .int .u64 0]) (by kernel_rfl) (by kernel_rfl) (by kernel_rfl) (eqB_run (b := ((0 == 0) && ((0 == 0) && true))) (by kernel_rfl))) (notB c71)) ?_))
        refine st 7 [true] ?_
        refine k_retQ ?_
        obtain rfl := Option.some.inj H
        exact ⟨_, by kernel_rfl, I, _, ⟨rfl, rfl⟩, hs.pk .n⟩
       ·replace H := bif_t c71 H
        refine st 1 [] (k_op (owp_run (.bool false) (run_bool (run_neAgg (xs := #[.int .i64 0, .int .u64 0]) (ys := #[.int .i64 0, .int .u64 0]) (by kernel_rfl) (by kernel_rfl) (by kernel_rfl) (eqB_run (b := ((0 == 0) && ((0 == 0) && true))) (by kernel_rfl))) (notB c71)) ?_))
        refine st 10 [false] ?_
        obtain ⟨s78, m80, HR79⟩ := bind_some H
        refine k_loop 0 (fun k' ρ h => ∃ (x72 : List Int) (x77 : Int) (a73 : Option Addr) (p74 : Nat) (n75 : Nat) (I : Gh), shutterlaw21_RoamKeeps.l1.m K k' x72 x77 = some s78 ∧ Fits [(1, .slice a25 x1.length p26), (6, .slice a73 n75 p74), (9, .slice a59 t54.2.1.length p60), (11, .int .i64 x77)] ρ ∧ St E [rR (tInt .u8) .b a25 p26 x1.length x1, rO (tInt .u8) .i a73 p74 n75 x72, rO (tInt .u8) .i a59 p60 t54.2.1.length t54.2.1, rG] I h) (fun ρ h => ∃ (I : Gh), () = s78 ∧ Fits [(1, .slice a25 x1.length p26), (9, .slice a59 t54.2.1.length p60)] ρ ∧ St E [rR (tInt .u8) .b a25 p26 x1.length x1, rO (tInt .u8) .i a59 p60 t54.2.1.length t54.2.1, rG] I h) K ⟨t42, 0, a43, p44, t42.length, I, m80, ⟨by kernel_rfl, by kernel_rfl, by kernel_rfl, by kernel_rfl, trivial⟩, hs.pk (.c d9 (.c d6 (.c d2 (.c d7 .n))))⟩ ?_ rfl ?_
        ·clear HR79 m80 H
         rintro k' ρ h ⟨x72, x77, a73, p74, n75, I, H, hf, hs⟩
         cases k' with
         | zero => cases H
         | succ k =>
          rw [shutterlaw21_RoamKeeps.l1.m] at H
          refine k_fits _ hf ?_ rfl
          obtain rfl := hs.nO d1
          refine st 6 [] (k_ite H (fun c81 H => ?_) (fun c81 H => ?_))
          ·obtain ⟨c82, H⟩ := guard_pos H
           refine st 10 [true] (k_val (elemPtr a73 (x77.toNat * 1)) (pI (e := 5) (ik := .i64) (hs.sO d1) c82 c81) ?_)
           refine k_op (lC ((hs.sO d1).cell1 c82 c81) ?_)
           refine st 1 [] (k_val (elemPtr a73 (x77.toNat * 1)) (pI (e := 5) (ik := .i64) (hs.sO d1) c82 c81) ?_)
           obtain ⟨y84, g83, q85⟩ := (hs.sO d1).toSl.seg c82 c81
           obtain rfl := rep_int q85
           replace hs := (hs.f d1)
           refine k_op (sE hs 0 [.int .u8 (bXor .u8 (at_ x72 x77) 255)] (bXor .u8 (at_ x72 x77) 255) c82 c81 g83 (ones_of rfl) rfl ?_)
           intro h hs
           refine st 7 [] ?_
           exact k_endL ⟨k, Nat.lt_succ_self _, (x72.set x77.toNat (bXor .u8 (at_ x72 x77) 255)), (w64 (x77 + 1)), a73, p74, x72.length, I, H, ⟨by kernel_rfl, by kernel_rfl, by kernel_rfl, by kernel_rfl, trivial⟩, hs.pk (.c d1 (.c d0 (.c d0 (.c d0 .n))))⟩
          ·refine st 2 [false] ?_
           refine k_out rfl ?_
           obtain rfl := Option.some.inj H
           exact xE ⟨I, rfl, ⟨by kernel_rfl, by kernel_rfl, trivial⟩, hs.pk (.c d0 (.c d1 (.c d1 .n)))⟩
        ·rintro ρ h ⟨I, rfl, hf, hs⟩
         have H := HR79
         try dsimp only at H
         refine k_fits _ hf ?_ rfl
         refine st 4 [] (k_call H (fun _ m => shutterref01_Same.calls m ((hs.sO d1)).up1 (hs.sR d0)) ?_)
         rintro t86 _ _ H ⟨rfl, rfl⟩
         refine st 2 [] ?_
         refine k_retQ ?_
         obtain rfl := Option.some.inj H
         exact ⟨_, by kernel_rfl, I, _, ⟨rfl, rfl⟩, hs.pk .n⟩
    ·rw [if_neg c66] at H
     refine st 33 [true] ?_
     refine k_retQ ?_
     obtain rfl := Option.some.inj H
     exact ⟨_, by kernel_rfl, I, _, ⟨rfl, rfl⟩, hs.pk .n⟩

/-! shutter/shutterlaw21.RoamAgain -/
def shutterlaw21_RoamAgain.m (K : Nat) (x0 : (List Int)) (x1 : Int) (x2 : ByteArray) (x3 : ByteArray) (x4 : (List Int)) : Option Bool :=
  ((shutterlaw21_awake.m K).bind fun t29 => bif t29 then (if (x0.length : Int) > 100 then ((shutterlaw21_awake.m K).bind fun t31 => (some t31)) else (if (x4.length : Int) > 200 then ((shutterlaw21_awake.m K).bind fun t33 => (some t33)) else ((shutterref19_Seal.m K x0 (⟨1, (w64 (1 + (w64 (x1)))), x4⟩ : api_Frame)).bind fun t34 => ((roam_Gate_Come.m K (⟨x0, 1, (⟨0, 0⟩ : api_Seen), (⟨(⟨#[]⟩ : ByteArray), 0⟩ : api_Peer)⟩ : roam_Gate) x2 t34).bind fun t40 => ((roam_Gate_Come.m K t40.1 x3 t34).bind fun t52 => (if t40.2.2 = GoErr.nil then ((shutterref01_Same.m K t40.2.1 x4).bind fun t67 => bif t67 then ((api_Code.m t52.2.2).bind fun t68 => (if t68 = 12 then (if (t52.2.1.length : Int) = 0 then ((shutterlaw21_same.m K t52.1 t40.1).bind fun t71 => bif t71 then (some ((t40.1.Peer.Addr == x2) && ((t40.1.Peer.Seq == (w64 (1 + (w64 (x1))))) && true))) else (some false)) else (some false)) else (some false))) else (some false)) else (some false))))))) else ((shutterlaw21_awake.m K).bind fun t72 => (some t72)))

theorem shutterlaw21_RoamAgain.calls {B I : Gh} {h : Heap} {K : Nat} {x0 : (List Int)} {x1 : Int} {x2 : ByteArray} {x3 : ByteArray} {x4 : (List Int)} {a21 : Option Addr} {p22 : Nat} {n23 : Nat} {a25 : Option Addr} {p26 : Nat} {n27 : Nat} {r : Bool} (H : shutterlaw21_RoamAgain.m K x0 x1 x2 x3 x4 = some r)  :
    Fc Tryd.prog 9 #[.slice a21 n23 p22, .int .u32 x1, .string x2, .string x3, .slice a25 n27 p26] [rR (tInt .u8) .i a21 p22 n23 x0, rR (tInt .u8) .b a25 p26 n27 x4, rG] B I h (fun v L => v = .bool r ∧ L = []) := by
 refine fc_of fun E hs => ?_
 unfold shutterlaw21_RoamAgain.m at H
 obtain rfl := hs.nR d0
 obtain rfl := hs.nR d1
 refine fn_of (args := [.slice a21 x0.length p22, .int .u32 x1, .string x2, .string x3, .slice a25 x4.length p26]) (rs := [.tmp 10]) (N := 89) Tryd.func9 rfl rfl rfl rfl ?_
 obtain ⟨hk, bk⟩ := hs.call tk0 (.c (gK d2) .n)
 refine st 7 [] (k_call H (fun _ m => shutterlaw21_awake.calls m hk) ?_)
 rintro t29 _ h H ⟨I, _, ⟨rfl, rfl⟩, hk⟩
 replace hs := bk hk ct0 rfl
 cases t29
 ·rw [cond_false] at H
  obtain ⟨hk, bk⟩ := hs.call tk0 (.c (gK d2) .n)
  refine st 15 [true] (k_call H (fun _ m => shutterlaw21_awake.calls m hk) ?_)
  rintro t72 _ h H ⟨I, _, ⟨rfl, rfl⟩, hk⟩
  replace hs := bk hk ct0 rfl
  refine st 2 [] ?_
  refine k_retQ ?_
  obtain rfl := Option.some.inj H
  exact ⟨_, by kernel_rfl, I, _, ⟨rfl, rfl⟩, hs.pk .n⟩
 ·rw [cond_true] at H
  refine st 4 [] (k_ite H (fun c30 H => ?_) (fun c30 H => ?_))
  ·obtain ⟨hk, bk⟩ := hs.call tk0 (.c (gK d2) .n)
   refine st 10 [true] (k_call H (fun _ m => shutterlaw21_awake.calls m hk) ?_)
   rintro t31 _ h H ⟨I, _, ⟨rfl, rfl⟩, hk⟩
   replace hs := bk hk ct0 rfl
   refine st 2 [] ?_
   refine k_retQ ?_
   obtain rfl := Option.some.inj H
   exact ⟨_, by kernel_rfl, I, _, ⟨rfl, rfl⟩, hs.pk .n⟩
  ·refine st 4 [] (k_ite H (fun c32 H => ?_) (fun c32 H => ?_))
   ·obtain ⟨hk, bk⟩ := hs.call tk0 (.c (gK d2) .n)
    refine st 5 [true] (k_call H (fun _ m => shutterlaw21_awake.calls m hk) ?_)
    rintro t33 _ h H ⟨I, _, ⟨rfl, rfl⟩, hk⟩
    replace hs := bk hk ct0 rfl
    refine st 2 [] ?_
    refine k_retQ ?_
    obtain rfl := Option.some.inj H
    exact ⟨_, by kernel_rfl, I, _, ⟨rfl, rfl⟩, hs.pk .n⟩
   ·obtain ⟨hk, bk⟩ := hs.call tk0 (.c (qI d0) (.c (qB d1) .n))
    refine st 12 [false] (k_call H (fun _ m => shutterref19_Seal.calls m hk) ?_)
    rintro t34 _ h H ⟨I, _, ⟨a35, p36, n37, rfl, rfl⟩, hk⟩
    replace hs := bk hk ct1 rfl
    obtain rfl := hs.nO d0
    refine st 6 [] (k_op (nA hs [.slice none 0 0, .int .i64 0, .int .i64 0, .int .u64 0, .string (⟨#[]⟩ : ByteArray), .int .i64 0] (.agg #[.slice none 0 0, .int .i64 0, .int .i64 0, .int .u64 0, .string (⟨#[]⟩ : ByteArray), .int .i64 0]) ?_))
    intro b39 h hs
    refine k_op (sN hs 0 [.slice a21 x0.length p22, .int .i64 1, .int .i64 0, .int .u64 0, .string (⟨#[]⟩ : ByteArray), .int .i64 0] [.slice a21 x0.length p22, .int .i64 1, .int .i64 0, .int .u64 0, .string (⟨#[]⟩ : ByteArray), .int .i64 0] (ones_of rfl) ?_)
    intro h hs
    refine st 3 [] (k_op (lN (hs.bl d0) 0 6 ?_))
    obtain ⟨hk, bk⟩ := hs.call tk0 (.c (qK d2) (.c (qO d1) .n))
    refine st 2 [] (k_call H (fun _ m => roam_Gate_Come.calls m hk) ?_)
    rintro t40 _ h H ⟨I, _, ⟨a41, p42, n43, a45, p46, n47, v49, rfl, rfl⟩, hk⟩
    replace hs := bk hk ct3 rfl
    obtain rfl := hs.nR d0
    obtain rfl := hs.nO d1
    refine st 4 [] (k_op (nA hs [.slice none 0 0, .int .i64 0, .int .i64 0, .int .u64 0, .string (⟨#[]⟩ : ByteArray), .int .i64 0] (.agg #[.slice none 0 0, .int .i64 0, .int .i64 0, .int .u64 0, .string (⟨#[]⟩ : ByteArray), .int .i64 0]) ?_))
    intro b51 h hs
    refine k_op (sN hs 0 [.slice a41 t40.1.Key.length p42, .int .i64 t40.1.Dir, .int .i64 t40.1.Seen.Top, .int .u64 t40.1.Seen.Bits, .string t40.1.Peer.Addr, .int .i64 t40.1.Peer.Seq] [.slice a41 t40.1.Key.length p42, .int .i64 t40.1.Dir, .int .i64 t40.1.Seen.Top, .int .u64 t40.1.Seen.Bits, .string t40.1.Peer.Addr, .int .i64 t40.1.Peer.Seq] (ones_of rfl) ?_)
    intro h hs
    refine st 5 [] (k_op (lN (hs.bl d0) 0 6 ?_))
    obtain ⟨hk, bk⟩ := hs.call tk0 (.c (qK d1) (.c (qO d5) .n))
    refine st 2 [] (k_call H (fun _ m => roam_Gate_Come.calls m hk) ?_)
    rintro t52 _ h H ⟨I, _, ⟨a53, p54, n55, a57, p58, n59, v61, rfl, rfl⟩, hk⟩
    replace hs := bk hk ct3 rfl
    obtain rfl := hs.nR d0
    obtain rfl := hs.nO d1
    refine st 4 [] (k_op (nA hs [.slice none 0 0, .int .i64 0, .int .i64 0, .int .u64 0, .string (⟨#[]⟩ : ByteArray), .int .i64 0] (.agg #[.slice none 0 0, .int .i64 0, .int .i64 0, .int .u64 0, .string (⟨#[]⟩ : ByteArray), .int .i64 0]) ?_))
    intro b63 h hs
    refine k_op (sN hs 0 [.slice a53 t52.1.Key.length p54, .int .i64 t52.1.Dir, .int .i64 t52.1.Seen.Top, .int .u64 t52.1.Seen.Bits, .string t52.1.Peer.Addr, .int .i64 t52.1.Peer.Seq] [.slice a53 t52.1.Key.length p54, .int .i64 t52.1.Dir, .int .i64 t52.1.Seen.Top, .int .u64 t52.1.Seen.Bits, .string t52.1.Peer.Addr, .int .i64 t52.1.Peer.Seq] (ones_of rfl) ?_)
    intro h hs
    rcases (hs.er d7).cases with ⟨c64, rfl⟩ | ⟨c64, t65, u66, rfl⟩
    ·rw [if_pos c64] at H
     refine st 10 [] (k_call H (fun _ m => shutterref01_Same.calls m ((hs.sO d6)).up1 (hs.sR d11)) ?_)
     rintro t67 _ _ H ⟨rfl, rfl⟩
     cases t67
     ·rw [cond_false] at H
      refine st 28 [] ?_
      refine k_retQ ?_
      obtain rfl := Option.some.inj H
      exact ⟨_, by kernel_rfl, I, _, ⟨rfl, rfl⟩, hs.pk .n⟩
     ·rw [cond_true] at H
      obtain ⟨hk, bk⟩ := hs.call tk0 (.c (xI d3) (.c (gK d12) .n))
      refine st 3 [] (k_call H (fun _ m => api_Code.calls m hk) ?_)
      rintro t68 _ h H ⟨I, _, ⟨rfl, rfl⟩, hk⟩
      replace hs := bk hk ct0 rfl
      refine k_ite H (fun c69 H => ?_) (fun c69 H => ?_)
      ·refine st 4 [] (k_ite H (fun c70 H => ?_) (fun c70 H => ?_))
       ·refine st 2 [] (k_op (lN (hs.bl d0) 0 6 ?_))
        refine k_op (lN (hs.bl d4) 0 6 ?_)
        obtain ⟨hk, bk⟩ := hs.call tk0 (.c (qI d1) (.c (qI d5) .n))
        refine k_call H (fun _ m => shutterlaw21_same.calls m hk) ?_
        rintro t71 _ h H ⟨I, _, ⟨rfl, rfl⟩, hk⟩
        replace hs := bk hk ct0 rfl
        cases t71
        ·rw [cond_false] at H
         refine st 13 [] ?_
         refine k_retQ ?_
         obtain rfl := Option.some.inj H
         exact ⟨_, by kernel_rfl, I, _, ⟨rfl, rfl⟩, hs.pk .n⟩
        ·rw [cond_true] at H
         refine st 3 [] (k_op (lN (hs.bl d4) 4 2 ?_))
         refine st 5 [] (k_op (owp_run (.bool ((t40.1.Peer.Addr == x2) && ((t40.1.Peer.Seq == (w64 (1 + (w64 (x1))))) && true))) (run_eqAgg (xs := #[.string t40.1.Peer.Addr, .int .i64 t40.1.Peer.Seq]) (ys := #[.string x2, .int .i64 (w64 (1 + (w64 (x1))))]) (by kernel_rfl) (by kernel_rfl) (by kernel_rfl) (eqB_run (b := ((t40.1.Peer.Addr == x2) && ((t40.1.Peer.Seq == (w64 (1 + (w64 (x1))))) && true))) (by kernel_rfl))) ?_))
         refine st 3 [] ?_
         refine k_retQ ?_
         obtain rfl := Option.some.inj H
         exact ⟨_, by kernel_rfl, I, _, ⟨rfl, rfl⟩, hs.pk .n⟩
       ·refine st 18 [] ?_
        refine k_retQ ?_
        obtain rfl := Option.some.inj H
        exact ⟨_, by kernel_rfl, I, _, ⟨rfl, rfl⟩, hs.pk .n⟩
      ·refine st 23 [] ?_
       refine k_retQ ?_
       obtain rfl := Option.some.inj H
       exact ⟨_, by kernel_rfl, I, _, ⟨rfl, rfl⟩, hs.pk .n⟩
    ·rw [if_neg c64] at H
     refine st 39 [] ?_
     refine k_retQ ?_
     obtain rfl := Option.some.inj H
     exact ⟨_, by kernel_rfl, I, _, ⟨rfl, rfl⟩, hs.pk .n⟩

end Go.Proofs.YtpkcckaaocannaaDoor.Sx
