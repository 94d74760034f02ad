import Derived.Test.YtjkbhpokboolpaaGreatDoorProg
import Derived.Test.YtjkbhpokboolpaaGreatDoorV4
import Derived.Test.YtjkbhpokboolpaaGreatDoorV5
import Derived.Test.YtjkbhpokboolpaaGreatDoorVF
import Derived.Test.YtjkbhpokboolpaaGreatDoorV6
import Derived.Test.YtjkbhpokboolpaaGreatDoorV7
import Derived.Test.YtjkbhpokboolpaaGreatDoorV9
import Derived.Test.YtjkbhpokboolpaaGreatDoorVD
import Derived.Test.YtjkbhpokboolpaaGreatDoorVC
import Derived.Test.YtjkbhpokboolpaaGreatDoorG0
import Derived.Test.YtjkbhpokboolpaaGreatDoorG6
namespace Go.Proofs.YtjkbhpokboolpaaGreatDoor.Sx
open Go
set_option maxRecDepth 100000
set_option maxHeartbeats 4000000
def hash_Sum_block.l1.m (K : Nat) (t27 : (List Int)) : Nat → Int → (List Int) → Option ((List Int))
  | 0, _, _ => none
  | k + 1, x31, x33 => (letJ (α := Bool → Option ((List Int))) (fun (x40 : Bool) => (bif x40 then (if 0 ≤ x31 then (if x31 < 64 then ((hash_turn.m (at_ x33 4) 6).bind fun t44 => ((hash_turn.m (at_ x33 4) 11).bind fun t45 => ((hash_turn.m (at_ x33 4) 25).bind fun t46 => ((hash_digits.m K (⟨#[52, 50, 56, 97, 50, 102, 57, 56, 55, 49, 51, 55, 52, 52, 57, 49, 98, 53, 99, 48, 102, 98, 99, 102, 101, 57, 98, 53, 100, 98, 97, 53, 51, 57, 53, 54, 99, 50, 53, 98, 53, 57, 102, 49, 49, 49, 102, 49, 57, 50, 51, 102, 56, 50, 97, 52, 97, 98, 49, 99, 53, 101, 100, 53, 100, 56, 48, 55, 97, 97, 57, 56, 49, 50, 56, 51, 53, 98, 48, 49, 50, 52, 51, 49, 56, 53, 98, 101, 53, 53, 48, 99, 55, 100, 99, 51, 55, 50, 98, 101, 53, 100, 55, 52, 56, 48, 100, 101, 98, 49, 102, 101, 57, 98, 100, 99, 48, 54, 97, 55, 99, 49, 57, 98, 102, 49, 55, 52, 101, 52, 57, 98, 54, 57, 99, 49, 101, 102, 98, 101, 52, 55, 56, 54, 48, 102, 99, 49, 57, 100, 99, 54, 50, 52, 48, 99, 97, 49, 99, 99, 50, 100, 101, 57, 50, 99, 54, 102, 52, 97, 55, 52, 56, 52, 97, 97, 53, 99, 98, 48, 97, 57, 100, 99, 55, 54, 102, 57, 56, 56, 100, 97, 57, 56, 51, 101, 53, 49, 53, 50, 97, 56, 51, 49, 99, 54, 54, 100, 98, 48, 48, 51, 50, 55, 99, 56, 98, 102, 53, 57, 55, 102, 99, 55, 99, 54, 101, 48, 48, 98, 102, 51, 100, 53, 97, 55, 57, 49, 52, 55, 48, 54, 99, 97, 54, 51, 53, 49, 49, 52, 50, 57, 50, 57, 54, 55, 50, 55, 98, 55, 48, 97, 56, 53, 50, 101, 49, 98, 50, 49, 51, 56, 52, 100, 50, 99, 54, 100, 102, 99, 53, 51, 51, 56, 48, 100, 49, 51, 54, 53, 48, 97, 55, 51, 53, 52, 55, 54, 54, 97, 48, 97, 98, 98, 56, 49, 99, 50, 99, 57, 50, 101, 57, 50, 55, 50, 50, 99, 56, 53, 97, 50, 98, 102, 101, 56, 97, 49, 97, 56, 49, 97, 54, 54, 52, 98, 99, 50, 52, 98, 56, 98, 55, 48, 99, 55, 54, 99, 53, 49, 97, 51, 100, 49, 57, 50, 101, 56, 49, 57, 100, 54, 57, 57, 48, 54, 50, 52, 102, 52, 48, 101, 51, 53, 56, 53, 49, 48, 54, 97, 97, 48, 55, 48, 49, 57, 97, 52, 99, 49, 49, 54, 49, 101, 51, 55, 54, 99, 48, 56, 50, 55, 52, 56, 55, 55, 52, 99, 51, 52, 98, 48, 98, 99, 98, 53, 51, 57, 49, 99, 48, 99, 98, 51, 52, 101, 100, 56, 97, 97, 52, 97, 53, 98, 57, 99, 99, 97, 52, 102, 54, 56, 50, 101, 54, 102, 102, 51, 55, 52, 56, 102, 56, 50, 101, 101, 55, 56, 97, 53, 54, 51, 54, 102, 56, 52, 99, 56, 55, 56, 49, 52, 56, 99, 99, 55, 48, 50, 48, 56, 57, 48, 98, 101, 102, 102, 102, 97, 97, 52, 53, 48, 54, 99, 101, 98, 98, 101, 102, 57, 97, 51, 102, 55, 99, 54, 55, 49, 55, 56, 102, 50]⟩ : ByteArray) x31).bind fun t47 => ((hash_turn.m (at_ x33 0) 2).bind fun t48 => ((hash_turn.m (at_ x33 0) 13).bind fun t49 => ((hash_turn.m (at_ x33 0) 22).bind fun t50 => (hash_Sum_block.l1.m K t27 k (w64 (x31 + 1)) [(IntKind.u32.wrap ((IntKind.u32.wrap ((IntKind.u32.wrap ((IntKind.u32.wrap ((IntKind.u32.wrap ((at_ x33 7) + (bXor .u32 (bXor .u32 t44 t45) t46))) + (bXor .u32 (bAnd .u32 (at_ x33 4) (at_ x33 5)) (bAnd .u32 (bXor .u32 4294967295 (at_ x33 4)) (at_ x33 6))))) + t47)) + (at_ t27 x31))) + (IntKind.u32.wrap ((bXor .u32 (bXor .u32 t48 t49) t50) + (bXor .u32 (bXor .u32 (bAnd .u32 (at_ x33 0) (at_ x33 1)) (bAnd .u32 (at_ x33 0) (at_ x33 2))) (bAnd .u32 (at_ x33 1) (at_ x33 2))))))), (at_ x33 0), (at_ x33 1), (at_ x33 2), (IntKind.u32.wrap ((at_ x33 3) + (IntKind.u32.wrap ((IntKind.u32.wrap ((IntKind.u32.wrap ((IntKind.u32.wrap ((at_ x33 7) + (bXor .u32 (bXor .u32 t44 t45) t46))) + (bXor .u32 (bAnd .u32 (at_ x33 4) (at_ x33 5)) (bAnd .u32 (bXor .u32 4294967295 (at_ x33 4)) (at_ x33 6))))) + t47)) + (at_ t27 x31))))), (at_ x33 4), (at_ x33 5), (at_ x33 6)])))))))) else none) else none) else (some (x33)))) fun (j41 : Bool → Option ((List Int))) => (if x31 < 64 then (j41 true) else (j41 false)))
def hash_Sum_block.l2.m (K : Nat) (x36 : List Int) : Nat → Int → Int → Int → Int → Int → Int → Int → Int → Int → Option (Int × Int × Int × Int × Int × Int × Int × Int)
  | 0, _, _, _, _, _, _, _, _, _ => none
  | k + 1, x52, x53, x54, x55, x56, x57, x58, x59, x60 => (letJ (α := Bool → Option (Int × Int × Int × Int × Int × Int × Int × Int)) (fun (x73 : Bool) => (bif x73 then (if 0 ≤ x52 then (if x52 < 8 then (hash_Sum_block.l2.m K x36 k (w64 (x52 + 1)) (at_ ([x53, x54, x55, x56, x57, x58, x59, x60].set x52.toNat (IntKind.u32.wrap ((at_ [x53, x54, x55, x56, x57, x58, x59, x60] x52) + (at_ x36 x52)))) 0) (at_ ([x53, x54, x55, x56, x57, x58, x59, x60].set x52.toNat (IntKind.u32.wrap ((at_ [x53, x54, x55, x56, x57, x58, x59, x60] x52) + (at_ x36 x52)))) 1) (at_ ([x53, x54, x55, x56, x57, x58, x59, x60].set x52.toNat (IntKind.u32.wrap ((at_ [x53, x54, x55, x56, x57, x58, x59, x60] x52) + (at_ x36 x52)))) 2) (at_ ([x53, x54, x55, x56, x57, x58, x59, x60].set x52.toNat (IntKind.u32.wrap ((at_ [x53, x54, x55, x56, x57, x58, x59, x60] x52) + (at_ x36 x52)))) 3) (at_ ([x53, x54, x55, x56, x57, x58, x59, x60].set x52.toNat (IntKind.u32.wrap ((at_ [x53, x54, x55, x56, x57, x58, x59, x60] x52) + (at_ x36 x52)))) 4) (at_ ([x53, x54, x55, x56, x57, x58, x59, x60].set x52.toNat (IntKind.u32.wrap ((at_ [x53, x54, x55, x56, x57, x58, x59, x60] x52) + (at_ x36 x52)))) 5) (at_ ([x53, x54, x55, x56, x57, x58, x59, x60].set x52.toNat (IntKind.u32.wrap ((at_ [x53, x54, x55, x56, x57, x58, x59, x60] x52) + (at_ x36 x52)))) 6) (at_ ([x53, x54, x55, x56, x57, x58, x59, x60].set x52.toNat (IntKind.u32.wrap ((at_ [x53, x54, x55, x56, x57, x58, x59, x60] x52) + (at_ x36 x52)))) 7)) else none) else none) else (some ((x53, x54, x55, x56, x57, x58, x59, x60))))) fun (j74 : Bool → Option (Int × Int × Int × Int × Int × Int × Int × Int)) => (if x52 < 8 then (j74 true) else (j74 false)))
def hash_Sum_block.m (K : Nat) (x0 : hash_Sum) (x1 : (List Int)) : Option hash_Sum :=
  ((hash_words.m K x1).bind fun t27 => ((hash_Sum_block.l1.m K t27 K 0 x0.h').bind fun x36 => ((hash_Sum_block.l2.m K x36 K 0 (at_ x0.h' 0) (at_ x0.h' 1) (at_ x0.h' 2) (at_ x0.h' 3) (at_ x0.h' 4) (at_ x0.h' 5) (at_ x0.h' 6) (at_ x0.h' 7)).bind fun (x62, x63, x64, x65, x66, x67, x68, x69) => (some (⟨[x62, x63, x64, x65, x66, x67, x68, x69], x0.rest', x0.n'⟩ : hash_Sum)))))
theorem hash_Sum_block.calls {B I : Gh} {h : Heap} {K : Nat} {x0 : hash_Sum} {x1 : (List Int)} {b0 : Nat} {v22 : Value} {a23 : Option Addr} {p24 : Nat} {n25 : Nat} {r : hash_Sum} (H : hash_Sum_block.m K x0 x1 = some r) (hl21 : List.length x0.h' = 8) :
    Fc Tryz.prog 310 #[pv b0, .slice a23 n25 p24] [rB b0 [.int .u32 (at_ x0.h' 0), .int .u32 (at_ x0.h' 1), .int .u32 (at_ x0.h' 2), .int .u32 (at_ x0.h' 3), .int .u32 (at_ x0.h' 4), .int .u32 (at_ x0.h' 5), .int .u32 (at_ x0.h' 6), .int .u32 (at_ x0.h' 7), v22, .int .u64 x0.n'] 400, rR (tInt .u8) .b a23 p24 n25 x1] B I h (fun v L => v = .tuple #[] ∧ L = [rB b0 [.int .u32 (at_ r.h' 0), .int .u32 (at_ r.h' 1), .int .u32 (at_ r.h' 2), .int .u32 (at_ r.h' 3), .int .u32 (at_ r.h' 4), .int .u32 (at_ r.h' 5), .int .u32 (at_ r.h' 6), .int .u32 (at_ r.h' 7), v22, .int .u64 r.n'] 400] ∧ List.length r.h' = 8) := by
 refine fc_of fun E hs => ?_
 unfold hash_Sum_block.m at H
 cases hs.nR d1
 refine fn_of (rs := []) (N := 116) Tryz.func310 rfl rfl rfl rfl ?_
 obtain ⟨hk, bk⟩ := hs.call tk0 (.c (qB d1) .n)
 refine st 3 [] (k_call H (fun _ m => hash_words.calls m hk) ?_)
 rintro t27 _ h H ⟨I, _, ⟨rfl, rfl, hl28⟩, hk⟩
 replace hs := bk hk ct0 rfl
 refine k_op (nA hs (List.map (Value.int .u32) (List.replicate 64 (0 : Int))) (.agg (List.map (Value.int .u32) (List.replicate 64 (0 : Int))).toArray) ?_)
 intro b29 h hs
 refine k_op (sAN (l2 := t27) hs (List.length_replicate (n := 64) (a := (0 : Int))) hl28 ?_)
 intro h hs
 refine st 6 [] (k_op (lG (seg_ats (ik := .u32) hl21 ((hs.bl d1).seg_ 0 8 (Nat.le_of_ble_eq_true rfl))) ?_))
 refine k_op (nA hs (List.map (Value.int .u32) (List.replicate 8 (0 : Int))) (.agg (List.map (Value.int .u32) (List.replicate 8 (0 : Int))).toArray) ?_)
 intro b30 h hs
 refine k_op (sAN (l2 := x0.h') hs (List.length_replicate (n := 8) (a := (0 : Int))) hl21 ?_)
 intro h hs
 refine st 7 [] ?_
 obtain ⟨s34, m38, HR37⟩ := bind_some H
 refine k_loopT hs tl1 0 (fun T k' ρ h => ∃ (x31 : Int) (x33 : List Int), ∃ I, hash_Sum_block.l1.m K t27 k' x31 x33 = some s34 ∧ Fits [(0, pv b0), (4, pv b29), (5, pv b30), (18, iv x31)] ρ ∧ List.length x33 = 8 ∧ St E (rB b30 (List.map (Value.int .u32) x33) 398 :: T) I h) (fun T ρ h => ∃ (x36 : List Int), ∃ I, x36 = s34 ∧ Fits [(0, pv b0), (5, pv b30)] ρ ∧ List.length x36 = 8 ∧ St E (rB b30 (List.map (Value.int .u32) x36) 398 :: T) I h) K ⟨0, x0.h', I, m38, ft, hl21, hs.pk (.c d0 pk0)⟩ ?_ rfl ?_
 rotate_left
 ·rintro ρ h ⟨x36, I, rfl, hf, hl35, hs⟩
  have H := HR37
  try dsimp only at H
  refine k_fits _ hf ?_ rfl
  refine st 5 [] ?_
  obtain ⟨s61, m71, HR70⟩ := bind_some H
  refine k_loop 2 (fun k' ρ h => ∃ (x52 : Int) (x53 : Int) (x54 : Int) (x55 : Int) (x56 : Int) (x57 : Int) (x58 : Int) (x59 : Int) (x60 : Int), ∃ I, hash_Sum_block.l2.m K x36 k' x52 x53 x54 x55 x56 x57 x58 x59 x60 = some s61 ∧ Fits [(0, pv b0), (5, pv b30), (99, iv x52)] ρ ∧ St E [rB b0 [.int .u32 x53, .int .u32 x54, .int .u32 x55, .int .u32 x56, .int .u32 x57, .int .u32 x58, .int .u32 x59, .int .u32 x60, v22, .int .u64 x0.n'] 400, rB b30 (List.map (Value.int .u32) x36) 398, rR (tInt .u8) .b a23 p24 x1.length x1] I h) (fun ρ h => ∃ (x62 : Int) (x63 : Int) (x64 : Int) (x65 : Int) (x66 : Int) (x67 : Int) (x68 : Int) (x69 : Int), ∃ I, (x62, x63, x64, x65, x66, x67, x68, x69) = s61 ∧ Fits [] ρ ∧ St E [rB b0 [.int .u32 x62, .int .u32 x63, .int .u32 x64, .int .u32 x65, .int .u32 x66, .int .u32 x67, .int .u32 x68, .int .u32 x69, v22, .int .u64 x0.n'] 400, rR (tInt .u8) .b a23 p24 x1.length x1] I h) K ⟨0, (at_ x0.h' 0), (at_ x0.h' 1), (at_ x0.h' 2), (at_ x0.h' 3), (at_ x0.h' 4), (at_ x0.h' 5), (at_ x0.h' 6), (at_ x0.h' 7), I, m71, ft, hs.pk (.c d2 (.c d0 (.c d1 .n)))⟩ ?_ rfl ?_
  rotate_left
  ·rintro ρ h ⟨x62, x63, x64, x65, x66, x67, x68, x69, I, rfl, hf, hs⟩
   have H := HR70
   try dsimp only at H
   refine k_fin ?_
   obtain rfl := si H
   exact ⟨_, by kernel_rfl, I, _, ⟨rfl, rfl, rfl⟩, hs.pk (.c d0 .n)⟩
  clear HR70 m71 H
  rintro k' ρ h ⟨x52, x53, x54, x55, x56, x57, x58, x59, x60, I, H, hf, hs⟩
  cases k' with
  | zero => cases H
  | succ k =>
   rw [hash_Sum_block.l2.m] at H
   refine k_fits _ hf ?_ rfl
   refine st 1 [] ?_
   obtain ⟨j74, e77, H⟩ := letJ_some H
   refine k_joinT (fun T ρ h => ∃ (x73 : Bool), ∃ I, j74 x73 = some s61 ∧ Fits [(0, pv b0), (5, pv b30), (99, iv x52), (100, .bool x73)] ρ ∧ St E T I h) hs tl0 ?_ ?_
   ·refine st 1 [] (k_ite H (fun c72 H => ?_) (fun c72 H => ?_))
    ·exact st 1 [] (k_end ⟨true, I, H, ft, hs⟩)
    exact st 1 [] (k_end ⟨false, I, H, ft, hs⟩)
   clear H
   rintro ρ h ⟨x73, I, H, hf, hs⟩
   refine k_fits _ hf ?_ rfl
   subst e77
   try dsimp only at H
   cases x73
   ·rw [cond_false] at H
    refine st 2 [false] (k_out rfl ?_)
    obtain rfl := si H
    exact xE ⟨x53, x54, x55, x56, x57, x58, x59, x60, I, rfl, trivial, hs.pk (.c d0 (.c d1 .n))⟩
   rw [cond_true] at H
   refine st 10 [true] ?_
   obtain ⟨hs0, bk0⟩ := hs.call tk0 (.c (qL d0) (.c (qL d1) .n))
   have hs := hs0
   refine k_regD hs0 13 ?_
   obtain ⟨c75, H⟩ := guard_pos H
   obtain ⟨c76, H⟩ := guard_pos H
   refine aRun [0, 1, 2, 3] 10 hs.keep ?_
   refine aP 4 (elemPtr (sa b0) (x52.toNat * 1)) rfl (pr_indexArrO (e := 397) (kk := .i64) (n := 8) (by kernel_rfl) (by kernel_rfl) (by kernel_rfl) (by kernel_rfl) c75 c76) hs.keep ?_
   refine aL 5 rfl hs.keep ((OwnB.mk (I := No) (hs0.g d0).1 (fun x => x)).arrCellO (k := .u32) (i := x52) [] [x53, x54, x55, x56, x57, x58, x59, x60] [v22, .int .u64 x0.n'] (by kernel_rfl) rfl c75 c76) (nmL hs0 d0) ?_
   refine aRun [6] 7 hs.keep ?_
   refine aP 7 (elemPtr (sa b30) (x52.toNat * 1)) rfl (pr_indexArr (e := 397) (kk := .i64) (n := 8) (by kernel_rfl) (by kernel_rfl) (by kernel_rfl) (by kernel_rfl) c75 c76) hs.keep ?_
   refine aL 8 rfl hs.keep ((OwnB.mk (I := No) (hs0.g d1).1 (fun x => x)).arrCell (i := x52) hl35 c75 c76) (nmL hs0 d1) ?_
   refine aRun [9, 10, 11] 2 hs.keep ?_
   refine aP 12 (elemPtr (sa b0) (x52.toNat * 1)) rfl (pr_indexArrO (e := 397) (kk := .i64) (n := 8) (by kernel_rfl) (by kernel_rfl) (by kernel_rfl) (by kernel_rfl) c75 c76) hs.keep ?_
   replace hs := hs.pk .n
   replace hs := bk0 hs ct0 rfl
   refine aOL 13 rfl (sAO (ik := .u32) hs [] [x53, x54, x55, x56, x57, x58, x59, x60] [v22, .int .u64 x0.n'] (IntKind.u32.wrap ((at_ [x53, x54, x55, x56, x57, x58, x59, x60] x52) + (at_ x36 x52))) (by kernel_rfl) rfl c75 c76 ?_)
   intro h hs
   rw [arr_expand (Value.int .u32) (len_set rfl)] at hs
   replace hs : St _ (rB _ [.int .u32 (at_ ([x53, x54, x55, x56, x57, x58, x59, x60].set x52.toNat (IntKind.u32.wrap ((at_ [x53, x54, x55, x56, x57, x58, x59, x60] x52) + (at_ x36 x52)))) 0), .int .u32 (at_ ([x53, x54, x55, x56, x57, x58, x59, x60].set x52.toNat (IntKind.u32.wrap ((at_ [x53, x54, x55, x56, x57, x58, x59, x60] x52) + (at_ x36 x52)))) 1), .int .u32 (at_ ([x53, x54, x55, x56, x57, x58, x59, x60].set x52.toNat (IntKind.u32.wrap ((at_ [x53, x54, x55, x56, x57, x58, x59, x60] x52) + (at_ x36 x52)))) 2), .int .u32 (at_ ([x53, x54, x55, x56, x57, x58, x59, x60].set x52.toNat (IntKind.u32.wrap ((at_ [x53, x54, x55, x56, x57, x58, x59, x60] x52) + (at_ x36 x52)))) 3), .int .u32 (at_ ([x53, x54, x55, x56, x57, x58, x59, x60].set x52.toNat (IntKind.u32.wrap ((at_ [x53, x54, x55, x56, x57, x58, x59, x60] x52) + (at_ x36 x52)))) 4), .int .u32 (at_ ([x53, x54, x55, x56, x57, x58, x59, x60].set x52.toNat (IntKind.u32.wrap ((at_ [x53, x54, x55, x56, x57, x58, x59, x60] x52) + (at_ x36 x52)))) 5), .int .u32 (at_ ([x53, x54, x55, x56, x57, x58, x59, x60].set x52.toNat (IntKind.u32.wrap ((at_ [x53, x54, x55, x56, x57, x58, x59, x60] x52) + (at_ x36 x52)))) 6), .int .u32 (at_ ([x53, x54, x55, x56, x57, x58, x59, x60].set x52.toNat (IntKind.u32.wrap ((at_ [x53, x54, x55, x56, x57, x58, x59, x60] x52) + (at_ x36 x52)))) 7), v22, .int .u64 x0.n'] _ :: _) _ _ := hs
   refine aEnd ?_
   exact st 5 [] (k_endL ⟨k, Nat.lt_succ_self _, (w64 (x52 + 1)), (at_ ([x53, x54, x55, x56, x57, x58, x59, x60].set x52.toNat (IntKind.u32.wrap ((at_ [x53, x54, x55, x56, x57, x58, x59, x60] x52) + (at_ x36 x52)))) 0), (at_ ([x53, x54, x55, x56, x57, x58, x59, x60].set x52.toNat (IntKind.u32.wrap ((at_ [x53, x54, x55, x56, x57, x58, x59, x60] x52) + (at_ x36 x52)))) 1), (at_ ([x53, x54, x55, x56, x57, x58, x59, x60].set x52.toNat (IntKind.u32.wrap ((at_ [x53, x54, x55, x56, x57, x58, x59, x60] x52) + (at_ x36 x52)))) 2), (at_ ([x53, x54, x55, x56, x57, x58, x59, x60].set x52.toNat (IntKind.u32.wrap ((at_ [x53, x54, x55, x56, x57, x58, x59, x60] x52) + (at_ x36 x52)))) 3), (at_ ([x53, x54, x55, x56, x57, x58, x59, x60].set x52.toNat (IntKind.u32.wrap ((at_ [x53, x54, x55, x56, x57, x58, x59, x60] x52) + (at_ x36 x52)))) 4), (at_ ([x53, x54, x55, x56, x57, x58, x59, x60].set x52.toNat (IntKind.u32.wrap ((at_ [x53, x54, x55, x56, x57, x58, x59, x60] x52) + (at_ x36 x52)))) 5), (at_ ([x53, x54, x55, x56, x57, x58, x59, x60].set x52.toNat (IntKind.u32.wrap ((at_ [x53, x54, x55, x56, x57, x58, x59, x60] x52) + (at_ x36 x52)))) 6), (at_ ([x53, x54, x55, x56, x57, x58, x59, x60].set x52.toNat (IntKind.u32.wrap ((at_ [x53, x54, x55, x56, x57, x58, x59, x60] x52) + (at_ x36 x52)))) 7), I, H, ft, hs.pk (.c d0 (.c d0 (.c d0 .n)))⟩)
 clear HR37 m38 H
 rintro k' ρ h ⟨x31, x33, I, H, hf, hl32, hs⟩
 cases k' with
 | zero => cases H
 | succ k =>
  rw [hash_Sum_block.l1.m] at H
  refine k_fits _ hf ?_ rfl
  refine st 1 [] ?_
  obtain ⟨j41, e51, H⟩ := letJ_some H
  refine k_joinT (fun T ρ h => ∃ (x40 : Bool), ∃ I, j41 x40 = some s34 ∧ Fits [(0, pv b0), (4, pv b29), (5, pv b30), (18, iv x31), (19, .bool x40)] ρ ∧ St E T I h) hs tl0 ?_ ?_
  ·refine st 1 [] (k_ite H (fun c39 H => ?_) (fun c39 H => ?_))
   ·exact st 1 [] (k_end ⟨true, I, H, ft, hs⟩)
   exact st 1 [] (k_end ⟨false, I, H, ft, hs⟩)
  clear H
  rintro ρ h ⟨x40, I, H, hf, hs⟩
  refine k_fits _ hf ?_ rfl
  subst e51
  try dsimp only at H
  cases x40
  ·rw [cond_false] at H
   refine st 2 [false] (k_out rfl ?_)
   obtain rfl := si H
   exact xE ⟨x33, I, rfl, ft, hl32, hs.pk (.c d0 pk0)⟩
  rw [cond_true] at H
  refine st 11 [true] ?_
  obtain ⟨hs0, bk0⟩ := hs.call tk0 (.c (qL d0) .n)
  have hs := hs0
  refine k_regD hs0 6 ?_
  refine aP 0 (elemPtr (sa b30) ((0 : Int).toNat * 1)) rfl (pr_indexArr (e := 397) (kk := .i64) (n := 8) (by kernel_rfl) (by kernel_rfl) (by kernel_rfl) (by kernel_rfl) (by decide) (by decide)) hs.keep ?_
  refine aL 1 rfl hs.keep ((OwnB.mk (I := No) (hs0.g d0).1 (fun x => x)).arrCell (i := 0) hl32 (by decide) (by decide)) (nmL hs0 d0) ?_
  refine aP 2 (elemPtr (sa b30) ((4 : Int).toNat * 1)) rfl (pr_indexArr (e := 397) (kk := .i64) (n := 8) (by kernel_rfl) (by kernel_rfl) (by kernel_rfl) (by kernel_rfl) (by decide) (by decide)) hs.keep ?_
  refine aL 3 rfl hs.keep ((OwnB.mk (I := No) (hs0.g d0).1 (fun x => x)).arrCell (i := 4) hl32 (by decide) (by decide)) (nmL hs0 d0) ?_
  refine aRun [4, 5] 0 hs.keep ?_
  replace hs := hs.pk .n
  replace hs := bk0 hs ct0 rfl
  refine aEnd ?_
  refine st 1 [] ?_
  obtain ⟨hs0, bk0⟩ := hs.call tk0 (.c (qL d0) (.c (qL d1) .n))
  have hs := hs0
  refine k_regD hs0 30 ?_
  refine aP 0 (elemPtr (sa b30) ((7 : Int).toNat * 1)) rfl (pr_indexArr (e := 397) (kk := .i64) (n := 8) (by kernel_rfl) (by kernel_rfl) (by kernel_rfl) (by kernel_rfl) (by decide) (by decide)) hs.keep ?_
  refine aL 1 rfl hs.keep ((OwnB.mk (I := No) (hs0.g d0).1 (fun x => x)).arrCell (i := 7) hl32 (by decide) (by decide)) (nmL hs0 d0) ?_
  refine aRun [2, 4, 7, 11] 24 hs.keep ?_
  refine aP 12 (elemPtr (sa b30) ((5 : Int).toNat * 1)) rfl (pr_indexArr (e := 397) (kk := .i64) (n := 8) (by kernel_rfl) (by kernel_rfl) (by kernel_rfl) (by kernel_rfl) (by decide) (by decide)) hs.keep ?_
  refine aL 13 rfl hs.keep ((OwnB.mk (I := No) (hs0.g d0).1 (fun x => x)).arrCell (i := 5) hl32 (by decide) (by decide)) (nmL hs0 d0) ?_
  refine aRun [14, 15, 16] 19 hs.keep ?_
  refine aP 17 (elemPtr (sa b30) ((6 : Int).toNat * 1)) rfl (pr_indexArr (e := 397) (kk := .i64) (n := 8) (by kernel_rfl) (by kernel_rfl) (by kernel_rfl) (by kernel_rfl) (by decide) (by decide)) hs.keep ?_
  refine aL 18 rfl hs.keep ((OwnB.mk (I := No) (hs0.g d0).1 (fun x => x)).arrCell (i := 6) hl32 (by decide) (by decide)) (nmL hs0 d0) ?_
  obtain ⟨c42, H⟩ := guard_pos H
  obtain ⟨c43, H⟩ := guard_pos H
  refine aRun [19, 20, 22, 25] 13 hs.keep ?_
  refine aP 26 (elemPtr (sa b29) (x31.toNat * 1)) rfl (pr_indexArr (e := 397) (kk := .i64) (n := 64) (by kernel_rfl) (by kernel_rfl) (by kernel_rfl) (by kernel_rfl) c42 c43) hs.keep ?_
  refine aL 27 rfl hs.keep ((OwnB.mk (I := No) (hs0.g d1).1 (fun x => x)).arrCell (i := x31) hl28 c42 c43) (nmL hs0 d1) ?_
  refine aO1 3 rfl (o_call H (fun _ m => hash_turn.calls m) ?_)
  rintro t44 _ _ H ⟨rfl, rfl⟩
  refine ⟨hs.keep, ?_⟩
  refine aO1 5 rfl (o_call H (fun _ m => hash_turn.calls m) ?_)
  rintro t45 _ _ H ⟨rfl, rfl⟩
  refine ⟨hs.keep, ?_⟩
  refine aRun [6] 8 hs.keep ?_
  refine aO1 8 rfl (o_call H (fun _ m => hash_turn.calls m) ?_)
  rintro t46 _ _ H ⟨rfl, rfl⟩
  refine ⟨hs.keep, ?_⟩
  refine aRun [9, 10, 21] 4 hs.keep ?_
  obtain ⟨hk, bk⟩ := hs.call tk0 .n
  refine aO1 23 rfl (o_call H (fun _ m => hash_digits.calls m hk) ?_)
  rintro t47 _ h H ⟨I, _, ⟨rfl, rfl⟩, hk⟩
  replace hs := bk hk ct0 rfl
  refine ⟨hs.keep, ?_⟩
  refine aRun [24, 28, 29] 0 hs.keep ?_
  replace hs := hs.pk .n
  replace hs := bk0 hs ct0 rfl
  refine aEnd ?_
  refine st 1 [] ?_
  obtain ⟨hs0, bk0⟩ := hs.call tk0 (.c (qL d0) .n)
  have hs := hs0
  refine k_regD hs0 25 ?_
  refine aRun [0, 2, 5, 8] 21 hs.keep ?_
  refine aP 9 (elemPtr (sa b30) ((1 : Int).toNat * 1)) rfl (pr_indexArr (e := 397) (kk := .i64) (n := 8) (by kernel_rfl) (by kernel_rfl) (by kernel_rfl) (by kernel_rfl) (by decide) (by decide)) hs.keep ?_
  refine aL 10 rfl hs.keep ((OwnB.mk (I := No) (hs0.g d0).1 (fun x => x)).arrCell (i := 1) hl32 (by decide) (by decide)) (nmL hs0 d0) ?_
  refine aRun [11, 12] 17 hs.keep ?_
  refine aP 13 (elemPtr (sa b30) ((2 : Int).toNat * 1)) rfl (pr_indexArr (e := 397) (kk := .i64) (n := 8) (by kernel_rfl) (by kernel_rfl) (by kernel_rfl) (by kernel_rfl) (by decide) (by decide)) hs.keep ?_
  refine aL 14 rfl hs.keep ((OwnB.mk (I := No) (hs0.g d0).1 (fun x => x)).arrCell (i := 2) hl32 (by decide) (by decide)) (nmL hs0 d0) ?_
  refine aRun [15, 16] 13 hs.keep ?_
  refine aP 17 (elemPtr (sa b30) ((1 : Int).toNat * 1)) rfl (pr_indexArr (e := 397) (kk := .i64) (n := 8) (by kernel_rfl) (by kernel_rfl) (by kernel_rfl) (by kernel_rfl) (by decide) (by decide)) hs.keep ?_
  refine aL 18 rfl hs.keep ((OwnB.mk (I := No) (hs0.g d0).1 (fun x => x)).arrCell (i := 1) hl32 (by decide) (by decide)) (nmL hs0 d0) ?_
  refine aP 19 (elemPtr (sa b30) ((2 : Int).toNat * 1)) rfl (pr_indexArr (e := 397) (kk := .i64) (n := 8) (by kernel_rfl) (by kernel_rfl) (by kernel_rfl) (by kernel_rfl) (by decide) (by decide)) hs.keep ?_
  refine aL 20 rfl hs.keep ((OwnB.mk (I := No) (hs0.g d0).1 (fun x => x)).arrCell (i := 2) hl32 (by decide) (by decide)) (nmL hs0 d0) ?_
  refine aRun [21, 22] 7 hs.keep ?_
  refine aO1 1 rfl (o_call H (fun _ m => hash_turn.calls m) ?_)
  rintro t48 _ _ H ⟨rfl, rfl⟩
  refine ⟨hs.keep, ?_⟩
  refine aO1 3 rfl (o_call H (fun _ m => hash_turn.calls m) ?_)
  rintro t49 _ _ H ⟨rfl, rfl⟩
  refine ⟨hs.keep, ?_⟩
  refine aRun [4] 4 hs.keep ?_
  refine aO1 6 rfl (o_call H (fun _ m => hash_turn.calls m) ?_)
  rintro t50 _ _ H ⟨rfl, rfl⟩
  refine ⟨hs.keep, ?_⟩
  refine aRun [7, 23, 24] 0 hs.keep ?_
  replace hs := hs.pk .n
  replace hs := bk0 hs ct0 rfl
  refine aEnd ?_
  refine st 4 [] (k_val (elemPtr (sa b30) ((0 : Int).toNat * 1)) (pr_indexArr (e := 397) (kk := .i64) (n := 8) (by kernel_rfl) (by kernel_rfl) (by kernel_rfl) (by kernel_rfl) (by decide) (by decide)) ?_)
  refine k_op (lC (((hs.bl d0)).arrCell (i := 0) hl32 (by decide) (by decide)) ?_)
  refine k_val (elemPtr (sa b30) ((1 : Int).toNat * 1)) (pr_indexArr (e := 397) (kk := .i64) (n := 8) (by kernel_rfl) (by kernel_rfl) (by kernel_rfl) (by kernel_rfl) (by decide) (by decide)) ?_
  refine k_op (lC (((hs.bl d0)).arrCell (i := 1) hl32 (by decide) (by decide)) ?_)
  refine k_val (elemPtr (sa b30) ((2 : Int).toNat * 1)) (pr_indexArr (e := 397) (kk := .i64) (n := 8) (by kernel_rfl) (by kernel_rfl) (by kernel_rfl) (by kernel_rfl) (by decide) (by decide)) ?_
  refine k_op (lC (((hs.bl d0)).arrCell (i := 2) hl32 (by decide) (by decide)) ?_)
  refine k_val (elemPtr (sa b30) ((3 : Int).toNat * 1)) (pr_indexArr (e := 397) (kk := .i64) (n := 8) (by kernel_rfl) (by kernel_rfl) (by kernel_rfl) (by kernel_rfl) (by decide) (by decide)) ?_
  refine k_op (lC (((hs.bl d0)).arrCell (i := 3) hl32 (by decide) (by decide)) ?_)
  refine st 2 [] (k_val (elemPtr (sa b30) ((4 : Int).toNat * 1)) (pr_indexArr (e := 397) (kk := .i64) (n := 8) (by kernel_rfl) (by kernel_rfl) (by kernel_rfl) (by kernel_rfl) (by decide) (by decide)) ?_)
  refine k_op (lC (((hs.bl d0)).arrCell (i := 4) hl32 (by decide) (by decide)) ?_)
  refine k_val (elemPtr (sa b30) ((5 : Int).toNat * 1)) (pr_indexArr (e := 397) (kk := .i64) (n := 8) (by kernel_rfl) (by kernel_rfl) (by kernel_rfl) (by kernel_rfl) (by decide) (by decide)) ?_
  refine k_op (lC (((hs.bl d0)).arrCell (i := 5) hl32 (by decide) (by decide)) ?_)
  refine k_val (elemPtr (sa b30) ((6 : Int).toNat * 1)) (pr_indexArr (e := 397) (kk := .i64) (n := 8) (by kernel_rfl) (by kernel_rfl) (by kernel_rfl) (by kernel_rfl) (by decide) (by decide)) ?_
  refine k_op (lC (((hs.bl d0)).arrCell (i := 6) hl32 (by decide) (by decide)) ?_)
  refine st 1 [] (k_op (sAN (l2 := [(IntKind.u32.wrap ((IntKind.u32.wrap ((IntKind.u32.wrap ((IntKind.u32.wrap ((IntKind.u32.wrap ((at_ x33 7) + (bXor .u32 (bXor .u32 t44 t45) t46))) + (bXor .u32 (bAnd .u32 (at_ x33 4) (at_ x33 5)) (bAnd .u32 (bXor .u32 4294967295 (at_ x33 4)) (at_ x33 6))))) + t47)) + (at_ t27 x31))) + (IntKind.u32.wrap ((bXor .u32 (bXor .u32 t48 t49) t50) + (bXor .u32 (bXor .u32 (bAnd .u32 (at_ x33 0) (at_ x33 1)) (bAnd .u32 (at_ x33 0) (at_ x33 2))) (bAnd .u32 (at_ x33 1) (at_ x33 2))))))), (at_ x33 0), (at_ x33 1), (at_ x33 2), (IntKind.u32.wrap ((at_ x33 3) + (IntKind.u32.wrap ((IntKind.u32.wrap ((IntKind.u32.wrap ((IntKind.u32.wrap ((at_ x33 7) + (bXor .u32 (bXor .u32 t44 t45) t46))) + (bXor .u32 (bAnd .u32 (at_ x33 4) (at_ x33 5)) (bAnd .u32 (bXor .u32 4294967295 (at_ x33 4)) (at_ x33 6))))) + t47)) + (at_ t27 x31))))), (at_ x33 4), (at_ x33 5), (at_ x33 6)]) hs hl32 rfl ?_))
  intro h hs
  exact st 6 [] (k_endL ⟨k, Nat.lt_succ_self _, (w64 (x31 + 1)), [(IntKind.u32.wrap ((IntKind.u32.wrap ((IntKind.u32.wrap ((IntKind.u32.wrap ((IntKind.u32.wrap ((at_ x33 7) + (bXor .u32 (bXor .u32 t44 t45) t46))) + (bXor .u32 (bAnd .u32 (at_ x33 4) (at_ x33 5)) (bAnd .u32 (bXor .u32 4294967295 (at_ x33 4)) (at_ x33 6))))) + t47)) + (at_ t27 x31))) + (IntKind.u32.wrap ((bXor .u32 (bXor .u32 t48 t49) t50) + (bXor .u32 (bXor .u32 (bAnd .u32 (at_ x33 0) (at_ x33 1)) (bAnd .u32 (at_ x33 0) (at_ x33 2))) (bAnd .u32 (at_ x33 1) (at_ x33 2))))))), (at_ x33 0), (at_ x33 1), (at_ x33 2), (IntKind.u32.wrap ((at_ x33 3) + (IntKind.u32.wrap ((IntKind.u32.wrap ((IntKind.u32.wrap ((IntKind.u32.wrap ((at_ x33 7) + (bXor .u32 (bXor .u32 t44 t45) t46))) + (bXor .u32 (bAnd .u32 (at_ x33 4) (at_ x33 5)) (bAnd .u32 (bXor .u32 4294967295 (at_ x33 4)) (at_ x33 6))))) + t47)) + (at_ t27 x31))))), (at_ x33 4), (at_ x33 5), (at_ x33 6)], I, H, ft, rfl, hs.pk (.c d0 pk0)⟩)
def hash_Sum_Add.l2.m (K : Nat) : Nat → Int → Int → Int → Int → Int → Int → Int → Int → (List Int) → Int → Option (Int × Int × Int × Int × Int × Int × Int × Int × (List Int) × Int)
  | 0, _, _, _, _, _, _, _, _, _, _ => none
  | k + 1, x80, x81, x82, x83, x84, x85, x86, x87, x88, x93 => (if (x88.length : Int) ≥ 64 then (if 64 ≤ (x88.length : Int) then ((hash_Sum_block.m K (⟨[x80, x81, x82, x83, x84, x85, x86, x87], x88, x93⟩ : hash_Sum) (sub x88 0 64)).bind fun t113 => (hash_Sum_Add.l2.m K k (at_ t113.h' 0) (at_ t113.h' 1) (at_ t113.h' 2) (at_ t113.h' 3) (at_ t113.h' 4) (at_ t113.h' 5) (at_ t113.h' 6) (at_ t113.h' 7) (sub x88 64 (x88.length : Int)) t113.n')) else none) else (some ((x80, x81, x82, x83, x84, x85, x86, x87, x88, x93))))
def hash_Sum_Add.l1.m (K : Nat) (x1 : (List (List Int))) : Nat → Int → Int → Int → Int → Int → Int → Int → Int → Int → (List Int) → Int → Option (Int × Int × Int × Int × Int × Int × Int × Int × (List Int) × Int)
  | 0, _, _, _, _, _, _, _, _, _, _, _ => none
  | k + 1, x30, x31, x32, x33, x34, x35, x36, x37, x38, x39, x44 => (letJ (α := Bool → Option (Int × Int × Int × Int × Int × Int × Int × Int × (List Int) × Int)) (fun (x63 : Bool) => (bif x63 then (if 0 ≤ x30 then (if x30 < (x1.length : Int) then ((app x39 (at_ x1 x30)).bind fun l75 => ((hash_Sum_Add.l2.m K K x31 x32 x33 x34 x35 x36 x37 x38 l75 (IntKind.u64.wrap (x44 + (IntKind.u64.wrap (((at_ x1 x30).length : Int)))))).bind fun (x95, x96, x97, x98, x99, x100, x101, x102, x103, x108) => (hash_Sum_Add.l1.m K x1 k (w64 (x30 + 1)) x95 x96 x97 x98 x99 x100 x101 x102 x103 x108))) else none) else none) else (some ((x31, x32, x33, x34, x35, x36, x37, x38, x39, x44))))) fun (j64 : Bool → Option (Int × Int × Int × Int × Int × Int × Int × Int × (List Int) × Int)) => (if x30 < (x1.length : Int) then (j64 true) else (j64 false)))
def hash_Sum_Add.m (K : Nat) (x0 : hash_Sum) (x1 : (List (List Int))) : Option hash_Sum :=
  ((hash_Sum_Add.l1.m K x1 K 0 (at_ x0.h' 0) (at_ x0.h' 1) (at_ x0.h' 2) (at_ x0.h' 3) (at_ x0.h' 4) (at_ x0.h' 5) (at_ x0.h' 6) (at_ x0.h' 7) x0.rest' x0.n').bind fun (x46, x47, x48, x49, x50, x51, x52, x53, x54, x59) => (some (⟨[x46, x47, x48, x49, x50, x51, x52, x53], x54, x59⟩ : hash_Sum)))
theorem hash_Sum_Add.calls {B I : Gh} {h : Heap} {K : Nat} {x0 : hash_Sum} {x1 : (List (List Int))} {b0 : Nat} {a22 : Option Addr} {p23 : Nat} {n24 : Nat} {a26 : Option Addr} {p27 : Nat} {n28 : Nat} {r : hash_Sum} (H : hash_Sum_Add.m K x0 x1 = some r) (hl21 : List.length x0.h' = 8) :
    Fc Tryz.prog 301 #[pv b0, .slice a26 n28 p27] [rB b0 [.int .u32 (at_ x0.h' 0), .int .u32 (at_ x0.h' 1), .int .u32 (at_ x0.h' 2), .int .u32 (at_ x0.h' 3), .int .u32 (at_ x0.h' 4), .int .u32 (at_ x0.h' 5), .int .u32 (at_ x0.h' 6), .int .u32 (at_ x0.h' 7), .slice a22 n24 p23, .int .u64 x0.n'] 400, rO (tInt .u8) .i a22 p23 n24 x0.rest', rR (tSl (tInt .u8)) .b a26 p27 n28 x1] B I h (fun v L => ∃ a118 p119 n120, v = pv b0 ∧ L = [rB b0 [.int .u32 (at_ r.h' 0), .int .u32 (at_ r.h' 1), .int .u32 (at_ r.h' 2), .int .u32 (at_ r.h' 3), .int .u32 (at_ r.h' 4), .int .u32 (at_ r.h' 5), .int .u32 (at_ r.h' 6), .int .u32 (at_ r.h' 7), .slice a118 n120 p119, .int .u64 r.n'] 400, rO (tInt .u8) .i a118 p119 n120 r.rest'] ∧ List.length r.h' = 8) := by
 refine fc_of fun E hs => ?_
 unfold hash_Sum_Add.m at H
 cases hs.nO d1
 cases hs.nR d2
 refine fn_of (rs := [.tmp 4]) (N := 55) Tryz.func301 rfl rfl rfl rfl ?_
 refine st 12 [] ?_
 obtain ⟨s45, m61, HR60⟩ := bind_some H
 refine k_loop 0 (fun k' ρ h => ∃ (x30 : Int) (x31 : Int) (x32 : Int) (x33 : Int) (x34 : Int) (x35 : Int) (x36 : Int) (x37 : Int) (x38 : Int) (x39 : List Int) (x44 : Int), ∃ a40 p41 n42 I, hash_Sum_Add.l1.m K x1 k' x30 x31 x32 x33 x34 x35 x36 x37 x38 x39 x44 = some s45 ∧ Fits [(0, pv b0), (7, .slice a26 x1.length p27), (8, iv (x1.length : Int)), (9, iv x30)] ρ ∧ St E [rO (tInt .u8) .i a40 p41 n42 x39, rB b0 [.int .u32 x31, .int .u32 x32, .int .u32 x33, .int .u32 x34, .int .u32 x35, .int .u32 x36, .int .u32 x37, .int .u32 x38, .slice a40 n42 p41, .int .u64 x44] 400, rR (tSl (tInt .u8)) .b a26 p27 x1.length x1] I h) (fun ρ h => ∃ (x46 : Int) (x47 : Int) (x48 : Int) (x49 : Int) (x50 : Int) (x51 : Int) (x52 : Int) (x53 : Int) (x54 : List Int) (x59 : Int), ∃ a55 p56 n57 I, (x46, x47, x48, x49, x50, x51, x52, x53, x54, x59) = s45 ∧ Fits [(0, pv b0)] ρ ∧ St E [rO (tInt .u8) .i a55 p56 n57 x54, rB b0 [.int .u32 x46, .int .u32 x47, .int .u32 x48, .int .u32 x49, .int .u32 x50, .int .u32 x51, .int .u32 x52, .int .u32 x53, .slice a55 n57 p56, .int .u64 x59] 400, rR (tSl (tInt .u8)) .b a26 p27 x1.length x1] I h) K ⟨0, (at_ x0.h' 0), (at_ x0.h' 1), (at_ x0.h' 2), (at_ x0.h' 3), (at_ x0.h' 4), (at_ x0.h' 5), (at_ x0.h' 6), (at_ x0.h' 7), x0.rest', x0.n', a22, p23, x0.rest'.length, I, m61, ft, hs.pk (.c d1 (.c d0 (.c d0 .n)))⟩ ?_ rfl ?_
 rotate_left
 ·rintro ρ h ⟨x46, x47, x48, x49, x50, x51, x52, x53, x54, x59, a55, p56, n57, I, rfl, hf, hs⟩
  have H := HR60
  try dsimp only at H
  refine k_fits _ hf ?_ rfl
  cases hs.nO d0
  obtain rfl := si H
  exact st 5 [] (k_retQ ⟨_, by kernel_rfl, I, _, ⟨a55, p56, x54.length, rfl, rfl, rfl⟩, hs.pk (.c d1 (.c d0 .n))⟩)
 clear HR60 m61 H
 rintro k' ρ h ⟨x30, x31, x32, x33, x34, x35, x36, x37, x38, x39, x44, a40, p41, n42, I, H, hf, hs⟩
 cases k' with
 | zero => cases H
 | succ k =>
  rw [hash_Sum_Add.l1.m] at H
  refine k_fits _ hf ?_ rfl
  cases hs.nO d0
  refine st 1 [] ?_
  obtain ⟨j64, e116, H⟩ := letJ_some H
  refine k_joinT (fun T ρ h => ∃ (x63 : Bool), ∃ I, j64 x63 = some s45 ∧ Fits [(0, pv b0), (7, .slice a26 x1.length p27), (8, iv (x1.length : Int)), (9, iv x30), (10, .bool x63)] ρ ∧ St E T I h) hs tl0 ?_ ?_
  ·refine st 1 [] (k_ite H (fun c62 H => ?_) (fun c62 H => ?_))
   ·exact st 1 [] (k_end ⟨true, I, H, ft, hs⟩)
   exact st 1 [] (k_end ⟨false, I, H, ft, hs⟩)
  clear H
  rintro ρ h ⟨x63, I, H, hf, hs⟩
  refine k_fits _ hf ?_ rfl
  subst e116
  try dsimp only at H
  cases x63
  ·rw [cond_false] at H
   refine st 2 [false] (k_out rfl ?_)
   obtain rfl := si H
   exact xE ⟨x31, x32, x33, x34, x35, x36, x37, x38, x39, x44, a40, p41, x39.length, I, rfl, ft, hs.pk (.c d0 (.c d0 (.c d0 .n)))⟩
  rw [cond_true] at H
  obtain ⟨c65, H⟩ := guard_pos H
  obtain ⟨c66, H⟩ := guard_pos H
  refine st 7 [true] (k_val (elemPtr a26 (x30.toNat * 1)) (pI (e := 31) (ik := .i64) (hs.sR d2) c65 c66) ?_)
  obtain ⟨y68, g67, q69⟩ := (hs.sR d2).toSl.seg c65 c66
  obtain ⟨a70, p71, n72, rfl, q74⟩ := rep_sl q69
  obtain rfl := q74.2
  replace hs := hs.pR q74
  refine k_op (lC (seg_cell (f := 0) g67 rfl) ?_)
  refine st 7 [] (k_op (lB (hs.bl d2) 9 rfl ?_))
  refine st 6 [] (k_op (sB (v := .int .u64 (IntKind.u64.wrap (x44 + (IntKind.u64.wrap (((at_ x1 x30).length : Int)))))) (hs.f d2) cw9 ?_))
  intro h hs
  refine st 7 [] (k_op (lB (hs.bl d0) 8 rfl ?_))
  replace hs := (hs.f d2)
  obtain ⟨l75, m76, H⟩ := bind_some H
  refine st 1 [] (k_op (aO (e := 5) (bytes := 1) hs ((hs.sR d2).flat flat_int) m76 ?_))
  intro a77 p78 h hs
  refine st 2 [] (k_op (sB (v := .slice a77 l75.length p78) (hs.f d1) cw8 ?_))
  intro h hs
  refine st 2 [] ?_
  obtain ⟨s94, m110, HR109⟩ := bind_some H
  refine k_loopT hs tl2 2 (fun T k' ρ h => ∃ (x80 : Int) (x81 : Int) (x82 : Int) (x83 : Int) (x84 : Int) (x85 : Int) (x86 : Int) (x87 : Int) (x88 : List Int) (x93 : Int), ∃ a89 p90 n91 I, hash_Sum_Add.l2.m K k' x80 x81 x82 x83 x84 x85 x86 x87 x88 x93 = some s94 ∧ Fits [(0, pv b0), (7, .slice a26 x1.length p27), (8, iv (x1.length : Int)), (9, iv x30)] ρ ∧ St E (rO (tInt .u8) .i a89 p90 n91 x88 :: rB b0 [.int .u32 x80, .int .u32 x81, .int .u32 x82, .int .u32 x83, .int .u32 x84, .int .u32 x85, .int .u32 x86, .int .u32 x87, .slice a89 n91 p90, .int .u64 x93] 400 :: T) I h) (fun T ρ h => ∃ (x95 : Int) (x96 : Int) (x97 : Int) (x98 : Int) (x99 : Int) (x100 : Int) (x101 : Int) (x102 : Int) (x103 : List Int) (x108 : Int), ∃ a104 p105 n106 I, (x95, x96, x97, x98, x99, x100, x101, x102, x103, x108) = s94 ∧ Fits [(0, pv b0), (7, .slice a26 x1.length p27), (8, iv (x1.length : Int)), (9, iv x30)] ρ ∧ St E (rO (tInt .u8) .i a104 p105 n106 x103 :: rB b0 [.int .u32 x95, .int .u32 x96, .int .u32 x97, .int .u32 x98, .int .u32 x99, .int .u32 x100, .int .u32 x101, .int .u32 x102, .slice a104 n106 p105, .int .u64 x108] 400 :: T) I h) K ⟨x31, x32, x33, x34, x35, x36, x37, x38, l75, (IntKind.u64.wrap (x44 + (IntKind.u64.wrap (((at_ x1 x30).length : Int))))), a77, p78, l75.length, I, m110, ft, hs.pk (.c d1 (.c d0 pk0))⟩ ?_ rfl ?_
  rotate_left
  ·rintro ρ h ⟨x95, x96, x97, x98, x99, x100, x101, x102, x103, x108, a104, p105, n106, I, rfl, hf, hs⟩
   have H := HR109
   try dsimp only at H
   refine k_fits _ hf ?_ rfl
   cases hs.nO d0
   exact st 5 [] (k_endL ⟨k, Nat.lt_succ_self _, (w64 (x30 + 1)), x95, x96, x97, x98, x99, x100, x101, x102, x103, x108, a104, p105, x103.length, I, H, ft, hs.pk (.c d0 (.c d0 (.c d1 .n)))⟩)
  clear HR109 m110 H
  rintro k' ρ h ⟨x80, x81, x82, x83, x84, x85, x86, x87, x88, x93, a89, p90, n91, I, H, hf, hs⟩
  cases k' with
  | zero => cases H
  | succ k =>
   rw [hash_Sum_Add.l2.m] at H
   refine k_fits _ hf ?_ rfl
   cases hs.nO d0
   refine st 6 [] (k_op (lB (hs.bl d1) 8 rfl ?_))
   refine st 1 [] (k_ite H (fun c111 H => ?_) (fun c111 H => ?_))
   rotate_left
   ·refine st 2 [false] (k_out rfl ?_)
    obtain rfl := si H
    exact xE ⟨x80, x81, x82, x83, x84, x85, x86, x87, x88, x93, a89, p90, x88.length, I, rfl, ft, hs.pk (.c d0 (.c d0 pk0))⟩
   refine st 10 [true] (k_op (lB (hs.bl d1) 8 rfl ?_))
   obtain ⟨c112, H⟩ := guard_pos H
   refine k_val (.slice (slA a89 p90 (Int.toNat (0 : Int)) 1) ((sub x88 0 64).length) (p90 - Int.toNat (0 : Int))) (pSh (e := 5) (k2 := .i64) (hs.sO d0) (Int.le_refl 0) (by decide) c112) ?_
   obtain ⟨hk, bk⟩ := (hs.f d1).call tk1 (.c (qP (qO d0) (lo := 0) (hi := 64) (Int.le_refl 0) (by decide) c112) .n)
   refine k_call H (fun _ m => hash_Sum_block.calls m rfl hk) ?_
   rintro t113 _ h H ⟨I, _, ⟨rfl, rfl, hl114⟩, hk⟩
   replace hs := bk hk ct1 rfl
   refine st 6 [] (k_op (lB (hs.bl d0) 8 rfl ?_))
   refine k_val (.slice (slA a89 p90 (Int.toNat (64 : Int)) 1) ((sub x88 64 (x88.length : Int)).length) (p90 - Int.toNat (64 : Int))) (pSl (e := 5) (k1 := .i64) (hs.sO d1) (by decide) c112 (Int.le_refl _)) ?_
   replace hs := (hs.f d1).partO (lo := 64) (hi := (x88.length : Int)) (by decide) c112 (Int.le_refl _)
   refine st 2 [] (k_op (sB (v := .slice (slA a89 p90 (Int.toNat (64 : Int)) 1) ((sub x88 64 (x88.length : Int)).length) (p90 - Int.toNat (64 : Int))) (hs.f d1) cw8 ?_))
   intro h hs
   exact st 2 [] (k_endL ⟨k, Nat.lt_succ_self _, (at_ t113.h' 0), (at_ t113.h' 1), (at_ t113.h' 2), (at_ t113.h' 3), (at_ t113.h' 4), (at_ t113.h' 5), (at_ t113.h' 6), (at_ t113.h' 7), (sub x88 64 (x88.length : Int)), t113.n', (slA a89 p90 (Int.toNat (64 : Int)) 1), (p90 - Int.toNat (64 : Int)), (sub x88 64 (x88.length : Int)).length, I, H, ft, hs.pk (.c d1 (.c d0 pk0))⟩)
def hash_Sum_End.l1.m (K : Nat) (l29 : List Int) : Nat → (List Int) → Option ((List Int))
  | 0, _ => none
  | k + 1, x37 => (if (Int.tmod (w64 ((l29.length : Int) + (x37.length : Int))) 64) = 56 then (some (x37)) else ((app x37 [0]).bind fun l53 => (hash_Sum_End.l1.m K l29 k l53)))
def hash_Sum_End.l2.m (K : Nat) (x0 : hash_Sum) : Nat → (List Int) → Int → Option ((List Int))
  | 0, _, _ => none
  | k + 1, x58, x63 => (letJ (α := Bool → Option ((List Int))) (fun (x73 : Bool) => (bif x73 then (if 0 ≤ (w64 (56 - (w64 (8 * x63)))) then ((app x58 [(IntKind.u8.wrap ((shr .u64 (IntKind.u64.wrap (8 * x0.n')) (w64 (56 - (w64 (8 * x63)))))))]).bind fun l78 => (hash_Sum_End.l2.m K x0 k l78 (w64 (x63 + 1)))) else none) else (some (x58)))) fun (j74 : Bool → Option ((List Int))) => (if x63 < 8 then (j74 true) else (j74 false)))
def hash_Sum_End.l3.m (K : Nat) (t86 : hash_Sum) : Nat → Int → (List Int) → Option ((List Int))
  | 0, _, _ => none
  | k + 1, x93, x95 => (letJ (α := Bool → Option ((List Int))) (fun (x102 : Bool) => (bif x102 then (if 0 ≤ (w64 (Int.tdiv x93 4)) then (if (w64 (Int.tdiv x93 4)) < 8 then (if 0 ≤ (w64 (24 - (w64 (8 * (Int.tmod x93 4))))) then (if 0 ≤ x93 then (if x93 < 32 then (hash_Sum_End.l3.m K t86 k (w64 (x93 + 1)) (x95.set x93.toNat (IntKind.u8.wrap ((shr .u32 (at_ t86.h' (w64 (Int.tdiv x93 4))) (w64 (24 - (w64 (8 * (Int.tmod x93 4)))))))))) else none) else none) else none) else none) else none) else (some (x95)))) fun (j103 : Bool → Option ((List Int))) => (if x93 < 32 then (j103 true) else (j103 false)))
def hash_Sum_End.m (K : Nat) (x0 : hash_Sum) : Option ((List Int) × hash_Sum) :=
  ((app [] x0.rest').bind fun l29 => ((hash_Sum_End.l1.m K l29 K [128]).bind fun x43 => ((hash_Sum_End.l2.m K x0 K x43 0).bind fun x65 => ((hash_Sum_Add.m K (⟨x0.h', l29, x0.n'⟩ : hash_Sum) [x65]).bind fun t86 => ((hash_Sum_End.l3.m K t86 K 0 (List.replicate 32 (0 : Int))).bind fun x98 => (some (x98, x0)))))))
theorem hash_Sum_End.calls {B I : Gh} {h : Heap} {K : Nat} {x0 : hash_Sum} {b0 : Nat} {a22 : Option Addr} {p23 : Nat} {n24 : Nat} {r : ((List Int) × hash_Sum)} (H : hash_Sum_End.m K x0 = some r) (hl21 : List.length x0.h' = 8) :
    Fc Tryz.prog 302 #[pv b0] [rB b0 [.int .u32 (at_ x0.h' 0), .int .u32 (at_ x0.h' 1), .int .u32 (at_ x0.h' 2), .int .u32 (at_ x0.h' 3), .int .u32 (at_ x0.h' 4), .int .u32 (at_ x0.h' 5), .int .u32 (at_ x0.h' 6), .int .u32 (at_ x0.h' 7), .slice a22 n24 p23, .int .u64 x0.n'] 400, rO (tInt .u8) .i a22 p23 n24 x0.rest'] B I h (fun v L => ∃ a112 p113 n114, v = .agg (List.map (Value.int .u8) r.1).toArray ∧ L = [rB b0 [.int .u32 (at_ r.2.h' 0), .int .u32 (at_ r.2.h' 1), .int .u32 (at_ r.2.h' 2), .int .u32 (at_ r.2.h' 3), .int .u32 (at_ r.2.h' 4), .int .u32 (at_ r.2.h' 5), .int .u32 (at_ r.2.h' 6), .int .u32 (at_ r.2.h' 7), .slice a112 n114 p113, .int .u64 r.2.n'] 400, rO (tInt .u8) .i a112 p113 n114 r.2.rest'] ∧ List.length r.1 = 32 ∧ List.length r.2.h' = 8) := by
 refine fc_of fun E hs => ?_
 unfold hash_Sum_End.m at H
 cases hs.nO d1
 refine fn_of2 (rs := [.cell 2 252]) (N := 81) Tryz.func302 rfl rfl rfl rfl ?_
 refine st 2 [] (k_op (nA hs (List.map (Value.int .u8) (List.replicate 32 (0 : Int))) (.agg (List.map (Value.int .u8) (List.replicate 32 (0 : Int))).toArray) ?_))
 intro b26 h hs
 refine st 2 [] ?_
 obtain ⟨hs0, bk0⟩ := hs.call tk0 (.c (qL d1) (.c (qO d2) .n))
 have hs := hs0
 refine k_regD hs0 14 ?_
 refine aRun [0, 1, 2] 14 hs.keep ?_
 refine aG 3 rfl hs.keep (lls hs0 d0 0 8 rfl) (nmL hs0 d0) ?_
 refine aRun [4, 5, 6] 10 hs.keep ?_
 refine aL 7 rfl hs.keep (ll hs0 d0 (n := 9) rfl) (nmL hs0 d0) ?_
 refine aRun [9, 10, 11] 6 hs.keep ?_
 refine aL 12 rfl hs.keep (ll hs0 d0 (n := 8) rfl) (nmL hs0 d0) ?_
 refine aO1 8 rfl (nS (e := 5) hs .i (tInt .u8) ([] : List Int) [] 1 (.int .u8 0) (Reps.int (I := (Cl.G .i E.B I)) (k := .u8) (l := [])) ?_)
 intro b27 h hs
 refine ⟨hs.keep, ?_⟩
 obtain ⟨l29, m30, H⟩ := bind_some H
 refine aO1 13 rfl (aO (e := 5) (bytes := 1) hs ((hs.sR d2).flat flat_int) m30 ?_)
 intro a31 p32 h hs
 refine ⟨hs.keep, ?_⟩
 replace hs := hs.pk (.c d0 .n)
 replace hs := bk0 hs ct1 rfl
 refine aOL 14 rfl (owp_pure (.agg #[.int .u32 (at_ x0.h' 0), .int .u32 (at_ x0.h' 1), .int .u32 (at_ x0.h' 2), .int .u32 (at_ x0.h' 3), .int .u32 (at_ x0.h' 4), .int .u32 (at_ x0.h' 5), .int .u32 (at_ x0.h' 6), .int .u32 (at_ x0.h' 7), .slice a31 l29.length p32, .int .u64 x0.n']) (by kernel_rfl) ?_)
 refine aOL 15 rfl (nB hs [.int .u32 (at_ x0.h' 0), .int .u32 (at_ x0.h' 1), .int .u32 (at_ x0.h' 2), .int .u32 (at_ x0.h' 3), .int .u32 (at_ x0.h' 4), .int .u32 (at_ x0.h' 5), .int .u32 (at_ x0.h' 6), .int .u32 (at_ x0.h' 7), .slice a31 l29.length p32, .int .u64 x0.n'] ?_)
 intro b34 h hs
 refine aOL 16 rfl (owp_pure (pv b34) (by kernel_rfl) ?_)
 refine aEnd ?_
 refine st 2 [] (k_op (nS (e := 5) hs .i (tInt .u8) ([128] : List Int) [.int .u8 128] 1 (.int .u8 0) (Reps.int (I := (Cl.G .i E.B I)) (k := .u8) (l := [128])) ?_))
 intro b35 h hs
 refine st 4 [] ?_
 obtain ⟨s42, m49, HR48⟩ := bind_some H
 refine k_loopT hs tl1 0 (fun T k' ρ h => ∃ (x37 : List Int), ∃ a38 p39 n40 I, hash_Sum_End.l1.m K l29 k' x37 = some s42 ∧ Fits [(0, pv b0), (2, pv b26), (3, pv b34), (4, .slice a38 n40 p39)] ρ ∧ St E (rO (tInt .u8) .i a38 p39 n40 x37 :: T) I h) (fun T ρ h => ∃ (x43 : List Int), ∃ a44 p45 n46 I, x43 = s42 ∧ Fits [(0, pv b0), (2, pv b26), (3, pv b34), (4, .slice a44 n46 p45)] ρ ∧ St E (rO (tInt .u8) .i a44 p45 n46 x43 :: T) I h) K ⟨[128], (sa b35), 1, 1, I, m49, ft, hs.pk (.c d0 pk0)⟩ ?_ rfl ?_
 ·clear HR48 m49 H
  rintro k' ρ h ⟨x37, a38, p39, n40, I, H, hf, hs⟩
  cases k' with
  | zero => cases H
  | succ k =>
   rw [hash_Sum_End.l1.m] at H
   refine k_fits _ hf ?_ rfl
   cases hs.nO d0
   refine st 6 [] (k_op (lB (hs.bl d1) 8 rfl ?_))
   refine st 5 [] (k_iteN H (fun c50 H => ?_) (fun c50 H => ?_))
   ·refine st 2 [false] (k_out rfl ?_)
    obtain rfl := si H
    exact xE ⟨x37, a38, p39, x37.length, I, rfl, ft, hs.pk (.c d0 pk0)⟩
   refine st 6 [true] (k_op (nS (e := 5) hs .i (tInt .u8) ([0] : List Int) [.int .u8 0] 1 (.int .u8 0) (Reps.int (I := (Cl.G .i E.B I)) (k := .u8) (l := [0])) ?_))
   intro b51 h hs
   replace hs := (hs.f d1)
   obtain ⟨l53, m54, H⟩ := bind_some H
   refine k_op (aO (e := 5) (bytes := 1) hs (hs.sO d1) m54 ?_)
   intro a55 p56 h hs
   exact st 3 [] (k_endL ⟨k, Nat.lt_succ_self _, l53, a55, p56, l53.length, I, H, ft, hs.pk (.c d0 pk1)⟩)
 rintro ρ h ⟨x43, a44, p45, n46, I, rfl, hf, hs⟩
 have H := HR48
 try dsimp only at H
 refine k_fits _ hf ?_ rfl
 cases hs.nO d0
 refine st 5 [] (k_op (lB (hs.bl d4) 9 rfl ?_))
 refine st 9 [] ?_
 obtain ⟨s64, m71, HR70⟩ := bind_some H
 refine k_loopT hs tl1 2 (fun T k' ρ h => ∃ (x58 : List Int) (x63 : Int), ∃ a59 p60 n61 I, hash_Sum_End.l2.m K x0 k' x58 x63 = some s64 ∧ Fits [(2, pv b26), (3, pv b34), (4, .slice a59 n61 p60), (5, .int .u64 (IntKind.u64.wrap (8 * x0.n'))), (44, iv x63)] ρ ∧ St E (rO (tInt .u8) .i a59 p60 n61 x58 :: T) I h) (fun T ρ h => ∃ (x65 : List Int), ∃ a66 p67 n68 I, x65 = s64 ∧ Fits [(2, pv b26), (3, pv b34), (4, .slice a66 n68 p67)] ρ ∧ St E (rO (tInt .u8) .i a66 p67 n68 x65 :: T) I h) K ⟨x43, 0, a44, p45, x43.length, I, m71, ft, hs.pk (.c d0 pk0)⟩ ?_ rfl ?_
 ·clear HR70 m71 H
  rintro k' ρ h ⟨x58, x63, a59, p60, n61, I, H, hf, hs⟩
  cases k' with
  | zero => cases H
  | succ k =>
   rw [hash_Sum_End.l2.m] at H
   refine k_fits _ hf ?_ rfl
   cases hs.nO d0
   refine st 1 [] ?_
   obtain ⟨j74, e83, H⟩ := letJ_some H
   refine k_joinT (fun T ρ h => ∃ (x73 : Bool), ∃ I, j74 x73 = some s64 ∧ Fits [(2, pv b26), (3, pv b34), (4, .slice a59 x58.length p60), (5, .int .u64 (IntKind.u64.wrap (8 * x0.n'))), (44, iv x63), (45, .bool x73)] ρ ∧ St E T I h) hs tl0 ?_ ?_
   ·refine st 1 [] (k_ite H (fun c72 H => ?_) (fun c72 H => ?_))
    ·exact st 1 [] (k_end ⟨true, I, H, ft, hs⟩)
    exact st 1 [] (k_end ⟨false, I, H, ft, hs⟩)
   clear H
   rintro ρ h ⟨x73, I, H, hf, hs⟩
   refine k_fits _ hf ?_ rfl
   subst e83
   try dsimp only at H
   cases x73
   ·rw [cond_false] at H
    refine st 2 [false] (k_out rfl ?_)
    obtain rfl := si H
    exact xE ⟨x58, a59, p60, x58.length, I, rfl, ft, hs.pk (.c d0 pk0)⟩
   rw [cond_true] at H
   obtain ⟨c75, H⟩ := guard_pos H
   refine st 16 [true] (k_val (.int .u64 (shr .u64 (IntKind.u64.wrap (8 * x0.n')) (w64 (56 - (w64 (8 * x63)))))) (pr_shr (k := .u64) (yk := .i64) (a := (IntKind.u64.wrap (8 * x0.n'))) (b := (w64 (56 - (w64 (8 * x63))))) (by kernel_rfl) (by kernel_rfl) c75) ?_)
   refine st 1 [] (k_op (nS (e := 5) hs .i (tInt .u8) ([(IntKind.u8.wrap ((shr .u64 (IntKind.u64.wrap (8 * x0.n')) (w64 (56 - (w64 (8 * x63)))))))] : List Int) [.int .u8 (IntKind.u8.wrap ((shr .u64 (IntKind.u64.wrap (8 * x0.n')) (w64 (56 - (w64 (8 * x63)))))))] 1 (.int .u8 0) (Reps.int (I := (Cl.G .i E.B I)) (k := .u8) (l := [(IntKind.u8.wrap ((shr .u64 (IntKind.u64.wrap (8 * x0.n')) (w64 (56 - (w64 (8 * x63)))))))])) ?_))
   intro b76 h hs
   replace hs := (hs.f d1)
   obtain ⟨l78, m79, H⟩ := bind_some H
   refine k_op (aO (e := 5) (bytes := 1) hs (hs.sO d1) m79 ?_)
   intro a80 p81 h hs
   exact st 7 [] (k_endL ⟨k, Nat.lt_succ_self _, l78, (w64 (x63 + 1)), a80, p81, l78.length, I, H, ft, hs.pk (.c d0 pk1)⟩)
 rintro ρ h ⟨x65, a66, p67, n68, I, rfl, hf, hs⟩
 have H := HR70
 try dsimp only at H
 refine k_fits _ hf ?_ rfl
 cases hs.nO d0
 obtain ⟨I, hs⟩ := hs.fO
 refine st 4 [] (k_op (nS (e := 31) hs .i (tSl (tInt .u8)) ([x65] : List (List Int)) [.slice a66 x65.length p67] 1 (.slice none 0 0) (Reps.cons (T := (tSl (tInt .u8))) (c := [.slice a66 x65.length p67]) (x := x65) ⟨_, _, _, rfl, (hs.g d0)⟩ (.nil : Reps (tSl (tInt .u8)) (Cl.G .i E.B I) h [] [])) ?_))
 intro b84 h hs
 obtain ⟨hk, bk⟩ := ((hs.f d3).f d3).call tk2 (.c (qO d0) .n)
 refine k_call H (fun _ m => hash_Sum_Add.calls m hl21 hk) ?_
 rintro t86 _ h H ⟨I, _, ⟨a88, p89, n90, rfl, rfl, hl87⟩, hk⟩
 replace hs := bk hk ct2 rfl
 cases hs.nO d1
 refine st 3 [] (k_op (nA hs (List.map (Value.int .u8) (List.replicate 32 (0 : Int))) (.agg (List.map (Value.int .u8) (List.replicate 32 (0 : Int))).toArray) ?_))
 intro b92 h hs
 refine st 7 [] ?_
 obtain ⟨s96, m100, HR99⟩ := bind_some H
 refine k_loopT hs tl1 4 (fun T k' ρ h => ∃ (x93 : Int) (x95 : List Int), ∃ I, hash_Sum_End.l3.m K t86 k' x93 x95 = some s96 ∧ Fits [(2, pv b26), (3, pv b34), (7, pv b92), (61, iv x93)] ρ ∧ List.length x95 = 32 ∧ St E (rB b92 (List.map (Value.int .u8) x95) 252 :: T) I h) (fun T ρ h => ∃ (x98 : List Int), ∃ I, x98 = s96 ∧ Fits [(2, pv b26), (7, pv b92)] ρ ∧ List.length x98 = 32 ∧ St E (rB b92 (List.map (Value.int .u8) x98) 252 :: T) I h) K ⟨0, (List.replicate 32 (0 : Int)), I, m100, ft, (List.length_replicate (n := 32) (a := (0 : Int))), hs.pk (.c d0 pk0)⟩ ?_ rfl ?_
 rotate_left
 ·rintro ρ h ⟨x98, I, rfl, hf, hl97, hs⟩
  have H := HR99
  try dsimp only at H
  refine k_fits _ hf ?_ rfl
  refine st 2 [] (k_op (lG ((hs.bl d0).arrSeg hl97) ?_))
  refine k_op (sAN (l2 := x98) (hs.f d5) (List.length_replicate (n := 32) (a := (0 : Int))) hl97 ?_)
  intro h hs
  obtain rfl := si H
  exact st 1 [] (k_retQ ⟨[.agg (List.map (Value.int .u8) x98).toArray], (.cons (.agg (by kernel_rfl) (by kernel_rfl) (by kernel_rfl) ((hs.bl d0).arrSeg hl97)) .nil), I, _, ⟨a22, p23, x0.rest'.length, rfl, rfl, hl97, hl21⟩, hs.pk (.c d6 (.c d6 .n))⟩)
 clear HR99 m100 H
 rintro k' ρ h ⟨x93, x95, I, H, hf, hl94, hs⟩
 cases k' with
 | zero => cases H
 | succ k =>
  rw [hash_Sum_End.l3.m] at H
  refine k_fits _ hf ?_ rfl
  refine st 1 [] ?_
  obtain ⟨j103, e109, H⟩ := letJ_some H
  refine k_joinT (fun T ρ h => ∃ (x102 : Bool), ∃ I, j103 x102 = some s96 ∧ Fits [(2, pv b26), (3, pv b34), (7, pv b92), (61, iv x93), (62, .bool x102)] ρ ∧ St E T I h) hs tl0 ?_ ?_
  ·refine st 1 [] (k_ite H (fun c101 H => ?_) (fun c101 H => ?_))
   ·exact st 1 [] (k_end ⟨true, I, H, ft, hs⟩)
   exact st 1 [] (k_end ⟨false, I, H, ft, hs⟩)
  clear H
  rintro ρ h ⟨x102, I, H, hf, hs⟩
  refine k_fits _ hf ?_ rfl
  subst e109
  try dsimp only at H
  cases x102
  ·rw [cond_false] at H
   refine st 2 [false] (k_out rfl ?_)
   obtain rfl := si H
   exact xE ⟨x95, I, rfl, ft, hl94, hs.pk (.c d0 pk0)⟩
  rw [cond_true] at H
  obtain ⟨c104, H⟩ := guard_pos H
  obtain ⟨c105, H⟩ := guard_pos H
  refine st 17 [true] (k_val (elemPtr (sa b34) ((w64 (Int.tdiv x93 4)).toNat * 1)) (pr_indexArrO (e := 397) (kk := .i64) (n := 8) (by kernel_rfl) (by kernel_rfl) (by kernel_rfl) (by kernel_rfl) c104 c105) ?_)
  refine k_op (lC (((hs.bl d1)).arrCellO (k := .u32) (i := (w64 (Int.tdiv x93 4))) [] t86.h' [.slice a88 t86.rest'.length p89, .int .u64 t86.n'] (by rw [arr_expand (Value.int .u32) hl87]; kernel_rfl) rfl c104 (show _ < ((List.length t86.h' : Nat) : Int) by rw [hl87]; exact c105)) ?_)
  obtain ⟨c106, H⟩ := guard_pos H
  refine st 4 [] (k_val (.int .u32 (shr .u32 (at_ t86.h' (w64 (Int.tdiv x93 4))) (w64 (24 - (w64 (8 * (Int.tmod x93 4))))))) (pr_shr (k := .u32) (yk := .i64) (a := (at_ t86.h' (w64 (Int.tdiv x93 4)))) (b := (w64 (24 - (w64 (8 * (Int.tmod x93 4)))))) (by kernel_rfl) (by kernel_rfl) c106) ?_)
  obtain ⟨c107, H⟩ := guard_pos H
  obtain ⟨c108, H⟩ := guard_pos H
  refine st 1 [] (k_val (elemPtr (sa b92) (x93.toNat * 1)) (pr_indexArr (e := 5) (kk := .i64) (n := 32) (by kernel_rfl) (by kernel_rfl) (by kernel_rfl) (by kernel_rfl) c107 c108) ?_)
  refine k_op (sA hs (IntKind.u8.wrap ((shr .u32 (at_ t86.h' (w64 (Int.tdiv x93 4))) (w64 (24 - (w64 (8 * (Int.tmod x93 4)))))))) hl94 c107 c108 ?_)
  intro h hs
  exact st 6 [] (k_endL ⟨k, Nat.lt_succ_self _, (w64 (x93 + 1)), (x95.set x93.toNat (IntKind.u8.wrap ((shr .u32 (at_ t86.h' (w64 (Int.tdiv x93 4))) (w64 (24 - (w64 (8 * (Int.tmod x93 4))))))))), I, H, ft, (len_set hl94), hs.pk (.c d0 pk0)⟩)
def hash_Of.m (K : Nat) (x0 : (List (List Int))) : Option (List Int) :=
  ((hash_New.m K).bind fun t26 => ((hash_Sum_Add.m K t26 x0).bind fun t33 => ((hash_Sum_End.m K t33).bind fun t39 => (some t39.1))))
theorem hash_Of.calls {B I : Gh} {h : Heap} {K : Nat} {x0 : (List (List Int))} {a21 : Option Addr} {p22 : Nat} {n23 : Nat} {r : (List Int)} (H : hash_Of.m K x0 = some r)  :
    Fc Tryz.prog 276 #[.slice a21 n23 p22] [rR (tSl (tInt .u8)) .b a21 p22 n23 x0] B I h (fun v L => v = .agg (List.map (Value.int .u8) r).toArray ∧ L = [] ∧ List.length r = 32) := by
 refine fc_of fun E hs => ?_
 unfold hash_Of.m at H
 cases hs.nR d0
 refine fn_of2 (rs := [.cell 2 252]) (N := 7) Tryz.func276 rfl rfl rfl rfl ?_
 refine st 2 [] (k_op (nA hs (List.map (Value.int .u8) (List.replicate 32 (0 : Int))) (.agg (List.map (Value.int .u8) (List.replicate 32 (0 : Int))).toArray) ?_))
 intro b25 h hs
 obtain ⟨hk, bk⟩ := hs.call tk0 .n
 refine st 3 [] (k_call H (fun _ m => hash_New.calls m hk) ?_)
 rintro t26 _ h H ⟨I, _, ⟨b27, a29, p30, n31, rfl, rfl, hl28⟩, hk⟩
 replace hs := bk hk ct2 rfl
 cases hs.nO d1
 obtain ⟨hk, bk⟩ := ((hs.f d1).f d1).call tk2 (.c (qB d1) .n)
 refine st 1 [] (k_call H (fun _ m => hash_Sum_Add.calls m hl28 hk) ?_)
 rintro t33 _ h H ⟨I, _, ⟨a35, p36, n37, rfl, rfl, hl34⟩, hk⟩
 replace hs := bk hk ct2 rfl
 cases hs.nO d1
 obtain ⟨hk, bk⟩ := ((hs.f d1).f d1).call tk2 .n
 refine k_call H (fun _ m => hash_Sum_End.calls m hl34 hk) ?_
 rintro t39 _ h H ⟨I, _, ⟨a42, p43, n44, rfl, rfl, hl40, hl41⟩, hk⟩
 replace hs := bk hk ct2 rfl
 cases hs.nO d1
 refine k_op (sAN (l2 := t39.1) (hs.f d2) (List.length_replicate (n := 32) (a := (0 : Int))) hl40 ?_)
 intro h hs
 obtain rfl := si H
 exact st 1 [] (k_retQ ⟨[.agg (List.map (Value.int .u8) t39.1).toArray], (.cons (.agg (by kernel_rfl) (by kernel_rfl) (by kernel_rfl) ((hs.bl d0).arrSeg hl40)) .nil), I, _, ⟨rfl, rfl, hl40⟩, hs.pk .n⟩)
def slices_Insert_byte.m (x0 : List (List Int)) (i : Int) (x2 : List (List Int)) : Option (List (List Int)) := ins0 x0 i x2
theorem slices_Insert_byte.calls {B I : Gh} {h : Heap} {x0 x2 : List (List Int)} {i : Int} {a1 a2 : Option Addr} {p1 p2 n1 n2 : Nat} {r : List (List Int)} (H : slices_Insert_byte.m x0 i x2 = some r) :
    Fc Tryz.prog 277 #[.slice a1 n1 p1, .int .i64 i, .slice a2 n2 p2] [rO (tSl (tInt .u8)) .i a1 p1 n1 x0, rO (tSl (tInt .u8)) .i a2 p2 n2 x2] B I h (fun v L => ∃ (a : Option Addr) (p n : Nat), v = .slice a n p ∧ L = [rO (tSl (tInt .u8)) .i a p n r]) := by
  refine fc_of fun E hs => ?_
  unfold slices_Insert_byte.m ins0 at H
  obtain ⟨rfl, H1⟩ := guard_pos H
  clear H
  obtain ⟨hl2, H⟩ := guard_pos H1
  clear H1
  obtain ⟨y, rfl⟩ : ∃ y, x2 = [y] := by
    match x2, hl2 with
    | [y], _ => exact ⟨y, rfl⟩
  obtain rfl := hs.nO d0
  obtain rfl := hs.nO d1
  cases x0 with
  | nil =>
    refine fn_of (args := [.slice a1 ([] : List (List Int)).length p1, .int .i64 0, .slice a2 [y].length p2]) (rs := [.tmp 6]) (N := 95) Tryz.func277 rfl rfl rfl rfl ?_
    refine st 8 [] (k_val (.slice (slA a1 p1 (0 : Int).toNat 1) (sub ([] : List (List Int)) 0 (([] : List (List Int)).length : Int)).length (p1 - (0 : Int).toNat)) (pSl (e := 31) (k1 := .i64) (hs.sO d0) (Int.le_refl 0) (by simp) (Int.le_refl _)) ?_)
    refine st 33 [false, true] (k_op (aO (e := 31) (bytes := 24) hs (hs.sO d1) (r := [y]) (by simp [app, Lim]) ?_))
    intro a p h hs
    refine st 2 [] ?_
    refine k_retQ ?_
    have hr := (app_some H).2
    rw [List.append_nil] at hr
    subst hr
    exact ⟨_, by kernel_rfl, I, _, ⟨a, p, _, rfl, rfl⟩, hs.pk (.c d0 .n)⟩
  | cons z zs =>
    have hg0 := hs.g d0
    have hg1 := hs.g d1
    have hle := hg0.1.1.le
    have hle2 := hg1.1.1.le
    simp only [List.length_cons, List.length_nil] at hle hle2
    obtain ⟨⟨b, o, sp⟩, rfl⟩ : ∃ ad, a1 = some ad := by
      cases a1 with
      | none => have := (hg0.1.1.nil rfl).1; cases this
      | some ad => exact ⟨ad, rfl⟩
    obtain ⟨⟨b2, o2, sp2⟩, rfl⟩ : ∃ ad, a2 = some ad := by
      cases a2 with
      | none => have := (hg1.1.1.nil rfl).1; cases this
      | some ad => exact ⟨ad, rfl⟩
    obtain ⟨hsp, c0, t0, hb0, hf0⟩ := hg0.1.2.ow _ rfl
    obtain ⟨hsp2, c2, t2, hb2, hf2⟩ := hg1.1.2.ow _ rfl
    obtain rfl : sp = none := hsp
    obtain rfl : sp2 = none := hsp2
    simp only at hb0 hb2 hf0 hf2
    have hf0' : o + p1 ≤ c0.size := by simpa [tSl] using hf0
    have hne : b2 ≠ b := fun e => hs.sep.1.2.2 b ⟨_, rfl, rfl⟩ (.inl ⟨_, rfl, e⟩)
    obtain ⟨hlim, hr⟩ := app_some H
    subst hr
    have hlim2 : zs.length + 2 ≤ 1099511627776 := by unfold Lim at hlim; simp only [List.length_cons, List.length_nil] at hlim; omega
    clear hlim
    have hw : w64 ((((z :: zs).length : Nat) : Int) + ((([y] : List (List Int)).length : Nat) : Int)) = ((zs.length + 2 : Nat) : Int) := by
      simp only [List.length_cons, List.length_nil]
      rw [w64, IntKind.wrap_i64]; omega
    refine fn_of (args := [.slice (some ⟨b, o, none⟩) (z :: zs).length p1, .int .i64 0, .slice (some ⟨b2, o2, none⟩) [y].length p2]) (rs := [.tmp 6]) (N := 95) Tryz.func277 rfl rfl rfl rfl ?_
    refine st 8 [] (k_val (.slice (some ⟨b, o + 0, none⟩) ((z :: zs).length - 0) (p1 - 0)) (pXl (e := 31) (k1 := .i64) 0 (by simp) (by simpa using hle) (by omega)) ?_)
    have H0 : (if w64 ((((z :: zs).length : Nat) : Int) + ((([y] : List (List Int)).length : Nat) : Int)) > (p1 : Int) then some () else some ()) = some () := by split <;> rfl
    refine st 38 [false, false] (k_ite H0 (fun c H0 => ?_) (fun c H0 => ?_))
    · clear H0
      have hk : p1 < zs.length + 2 := by rw [hw] at c; omega
      have hrz : (tSl (tInt .u8)).rep ((Cl.i).G E.B I) h [.slice none 0 0] ([] : List Int) := ⟨none, 0, 0, rfl, rd_nil _ _ _, rfl⟩
      refine st 6 [true] (k_val (.slice (some ⟨b, o, none⟩) 0 p1) (pXh (e := 31) (k2 := .i64) (n := (z :: zs).length) 0 (by omega) (by omega)) ?_)
      refine st 4 [] (k_val (.int .i64 ((zs.length + 2 : Nat) : Int)) (pr_eq (v := .int .i64 (w64 (w64 ((((z :: zs).length : Nat) : Int) + ((([y] : List (List Int)).length : Nat) : Int)) - 0))) (by kernel_rfl) ?_) ?_)
      · rw [hw, w64, IntKind.wrap_i64]; exact congrArg (Value.int .i64) (by omega)
      have hfit : Builtin.nextslicecap (0 + (zs.length + 2)) p1 * 24 ≤ 281474976710656 := growslice_fits (need := 0 + (zs.length + 2)) (old := p1) (bytes := 24) (by omega) (by omega)
      refine k_op (owp_appendZ (e := 31) (T := tSl (tInt .u8)) (G := (Cl.i).G E.B I) (I := I) (b := b) (o := o) (cap := p1) (k := zs.length + 2) (bytes := 24) (kn := .i64) ([] : List Int) (.slice none 0 0) (by kernel_rfl) (by kernel_rfl) (elemOk_of (by kernel_rfl)) (by kernel_rfl) rfl hs.bd hs.bdG hrz hk hfit
        (by omega) (by omega) (by kernel_rfl) (by kernel_rfl) ?_)
      intro b3 p3 h3 hb3 hp3 ho3
      have hs := own_new (k := .i) hs hb3 hp3 ho3 (List.length_replicate (n := zs.length + 2))
      have hle3 := (hs.g d0).1.1.le
      rw [List.length_replicate] at hle3
      refine st 6 [] (k_val (.slice (some ⟨b3, 0 + 0, none⟩) (zs.length + 2 - 0) (p3 - 0)) (pXl (e := 31) (k1 := .i64) 0 (by omega) hle3 (by omega)) ?_)
      obtain ⟨cy, ty, fy, hby, _, hfy, _, ry⟩ := (hs.g d2).1.1.reps _ rfl (by omega)
      refine st 1 [] (k_op (owp_copyAt (e := 31) (T := tSl (tInt .u8)) (G := (Cl.i).G E.B I) (I := I) (b := b3) (o := 0) (b2 := b2) (o2 := o2) (cap := p3) (dn := zs.length + 2 - 0) (dc := p3 - 0) (sn := 1) (sc := p2) (p := 0) (l := List.replicate (zs.length + 2) []) (m := [y]) (cs := Sx.seg cy o2 (([y] : List (List Int)).length * (tSl (tInt .u8)).size))
        (by kernel_rfl) (by kernel_rfl) rfl hs.bd hs.bdG (hs.ow d0) (hs.notG d0 _ ⟨_, rfl, rfl⟩) ry (fun w hw => cells_at (by rw [hw]; exact hby)) (by simp) (by simp only [List.length_cons, List.length_nil]; omega)
        (by simp only [List.length_cons, List.length_nil]; simp only [Nat.min_def]; split <;> omega) (by kernel_rfl) (by kernel_rfl) ?_))
      intro h4 hp4 ho4
      have e4 : List.take 0 (List.replicate (zs.length + 2) ([] : List Int)) ++ [y] ++ List.drop (0 + ([y] : List (List Int)).length) (List.replicate (zs.length + 2) []) = y :: List.replicate (zs.length + 1) [] := by simp [List.drop_replicate]
      rw [e4] at ho4
      have hs := own_upd hs hp4 ho4 (n2 := zs.length + 2) (by simp) (fun _ y => .inl y)
      refine st 2 [] ?_
      obtain ⟨hs0, bk0⟩ := hs.call tk3 .n
      have hs := hs0
      refine k_regD hs0 8 ?_
      refine aRun [0, 1, 2, 3] 5 hs.keep ?_
      refine aP 4 (.slice (some ⟨b3, 0 + 1, none⟩) (zs.length + 2 - 1) (p3 - 1)) rfl (pXl (e := 31) (k1 := .i64) 1 (by omega) hle3 (by omega)) hs.keep ?_
      refine aRun [5, 6] 2 hs.keep ?_
      refine aP 7 (.slice (some ⟨b, o + 0, none⟩) ((z :: zs).length - 0) (p1 - 0)) rfl (pXl (e := 31) (k1 := .i64) 0 (by omega) (by simp only [List.length_cons]; omega) (by omega)) hs.keep ?_
      replace hs := bk0 hs ct3 rfl
      obtain ⟨cz, tz, fz, hbz, _, hfz, _, rz⟩ := (hs.g d1).1.1.reps _ rfl (by omega)
      refine aOL 8 rfl (owp_copyAt (e := 31) (T := tSl (tInt .u8)) (G := (Cl.i).G E.B I) (I := I) (b := b3) (o := 0) (b2 := b) (o2 := o + 0) (cap := p3) (dn := zs.length + 2 - 1) (dc := p3 - 1) (sn := (z :: zs).length - 0) (sc := p1 - 0) (p := 1) (l := y :: List.replicate (zs.length + 1) []) (m := z :: zs) (cs := Sx.seg cz o ((z :: zs).length * (tSl (tInt .u8)).size))
        (by kernel_rfl) (by kernel_rfl) rfl hs.bd hs.bdG (hs.ow d0) (hs.notG d0 _ ⟨_, rfl, rfl⟩) rz (fun w hw => cells_at (by rw [hw]; exact hbz)) (by simp) (by simp only [List.length_cons]; omega)
        (by simp only [List.length_cons, Nat.min_def]; split <;> omega) (by kernel_rfl) (by kernel_rfl) ?_)
      intro h5 hp5 ho5
      have e5 : List.take 1 (y :: List.replicate (zs.length + 1) ([] : List Int)) ++ (z :: zs) ++ List.drop (1 + (z :: zs).length) (y :: List.replicate (zs.length + 1) []) = y :: z :: zs := by
        rw [List.drop_eq_nil_of_le (by simp; omega)]; simp
      rw [e5] at ho5
      have hs := own_upd hs hp5 ho5 (n2 := zs.length + 2) (by simp) (fun _ y => .inl y)
      refine aEnd ?_
      refine st 5 [] ?_
      refine k_retQ ?_
      exact ⟨_, by kernel_rfl, I, _, ⟨some ⟨b3, 0, none⟩, p3, zs.length + 2, rfl, rfl⟩, hs.pk (.c d0 .n)⟩
    · clear H0
      have hk : zs.length + 2 ≤ p1 := by rw [hw] at c; omega
      refine st 8 [false] (k_val (.int .i64 ((zs.length + 2 : Nat) : Int)) (pr_eq (v := .int .i64 (w64 ((((z :: zs).length : Nat) : Int) + ((([y] : List (List Int)).length : Nat) : Int)))) (by kernel_rfl) (by rw [hw])) ?_)
      refine k_val (.slice (some ⟨b, o, none⟩) (zs.length + 2) p1) (pXh (e := 31) (k2 := .i64) (n := (z :: zs).length) (zs.length + 2) hk (by omega)) ?_
      refine st 10 [] (k_val (.slice (some ⟨b, o + 1, none⟩) (zs.length + 2 - 1) (p1 - 1)) (pXl (e := 31) (k1 := .i64) 1 (by omega) hk (by omega)) ?_)
      refine k_op (owp_ovl (tS := 58) (tR := 4) (e := 31) (size := 1) (a := ⟨b2, o2, none⟩) (b := ⟨b, o + 1, none⟩) (la := 1) (ca := p2) (lb := zs.length + 2 - 1) (cb := p1 - 1) Tryz.func303 (by kernel_rfl) (by kernel_rfl) (by kernel_rfl) (by kernel_rfl) (by kernel_rfl) (by kernel_rfl) hne hb2 hb0 (by omega) (by kernel_rfl) (by kernel_rfl) ?_)
      refine st 4 [true] ?_
      obtain ⟨hs0, bk0⟩ := hs.call tk2 .n
      have hs := hs0
      refine k_regD hs0 8 ?_
      refine aRun [0, 1, 2, 3] 5 hs.keep ?_
      refine aP 4 (.slice (some ⟨b, o + 1, none⟩) (zs.length + 2 - 1) (p1 - 1)) rfl (pXl (e := 31) (k1 := .i64) 1 (by omega) hk (by omega)) hs.keep ?_
      refine aRun [5, 6] 2 hs.keep ?_
      refine aP 7 (.slice (some ⟨b, o + 0, none⟩) (zs.length + 2 - 0) (p1 - 0)) rfl (pXl (e := 31) (k1 := .i64) 0 (by omega) hk (by omega)) hs.keep ?_
      replace hs := bk0 hs ct2 rfl
      obtain ⟨cz, tz, fz, hbz, _, hfz, _, rz⟩ := (hs.g d0).1.1.reps _ rfl (by omega)
      refine aOL 8 rfl (owp_copyAt (e := 31) (T := tSl (tInt .u8)) (G := (Cl.i).G E.B I) (I := I) (b := b) (o := o) (b2 := b) (o2 := o + 0) (cap := p1) (dn := zs.length + 2 - 1) (dc := p1 - 1) (sn := zs.length + 2 - 0) (sc := p1 - 0) (p := 1) (l := z :: zs) (m := z :: zs) (cs := Sx.seg cz o ((z :: zs).length * (tSl (tInt .u8)).size))
        (by kernel_rfl) (by kernel_rfl) rfl hs.bd hs.bdG (hs.ow d0) (hs.notG d0 _ ⟨_, rfl, rfl⟩) rz (fun w hw => cells_at (by rw [hw]; exact hbz)) (by simp) (by simp only [List.length_cons]; omega)
        (by simp only [List.length_cons, Nat.min_def]; split <;> omega) (by kernel_rfl) (by kernel_rfl) ?_)
      intro h5 hp5 ho5
      have e5 : List.take 1 (z :: zs) ++ (z :: zs) ++ List.drop (1 + (z :: zs).length) (z :: zs) = z :: z :: zs := by
        rw [List.drop_eq_nil_of_le (by simp)]; simp
      rw [e5] at ho5
      have hs := own_upd hs hp5 ho5 (n2 := zs.length + 2) (by simp) (fun _ y => .inl y)
      refine aEnd ?_
      refine st 4 [] (k_val (.slice (some ⟨b, o + 0, none⟩) (zs.length + 2 - 0) (p1 - 0)) (pXl (e := 31) (k1 := .i64) 0 (by omega) hk (by omega)) ?_)
      obtain ⟨cy, ty, fy, hby, _, hfy, _, ry⟩ := (hs.g d1).1.1.reps _ rfl (by omega)
      refine st 1 [] (k_op (owp_copyAt (e := 31) (T := tSl (tInt .u8)) (G := (Cl.i).G E.B I) (I := I) (b := b) (o := o) (b2 := b2) (o2 := o2) (cap := p1) (dn := zs.length + 2 - 0) (dc := p1 - 0) (sn := 1) (sc := p2) (p := 0) (l := z :: z :: zs) (m := [y]) (cs := Sx.seg cy o2 (([y] : List (List Int)).length * (tSl (tInt .u8)).size))
        (by kernel_rfl) (by kernel_rfl) rfl hs.bd hs.bdG (hs.ow d0) (hs.notG d0 _ ⟨_, rfl, rfl⟩) ry (fun w hw => cells_at (by rw [hw]; exact hby)) (by simp) (by simp only [List.length_cons, List.length_nil]; omega)
        (by simp only [List.length_cons, List.length_nil]; simp only [Nat.min_def]; split <;> omega) (by kernel_rfl) (by kernel_rfl) ?_))
      intro h6 hp6 ho6
      have e6 : List.take 0 (z :: z :: zs) ++ [y] ++ List.drop (0 + ([y] : List (List Int)).length) (z :: z :: zs) = y :: z :: zs := rfl
      rw [e6] at ho6
      have hs := own_upd hs hp6 ho6 (n2 := zs.length + 2) (by simp) (fun _ y => .inl y)
      refine st 6 [] ?_
      refine k_retQ ?_
      exact ⟨_, by kernel_rfl, I, _, ⟨some ⟨b, o, none⟩, p1, zs.length + 2, rfl, rfl⟩, hs.pk (.c d0 .n)⟩
def slices_Clone_byte.m (x0 : (List (List Int))) : Option (List (List Int)) :=
  ((app [] x0).bind fun l29 => (some l29))
theorem slices_Clone_byte.calls {B I : Gh} {h : Heap} {x0 : (List (List Int))} {a21 : Option Addr} {p22 : Nat} {n23 : Nat} {r : (List (List Int))} (H : slices_Clone_byte.m x0 = some r)  :
    Fc Tryz.prog 278 #[.slice a21 n23 p22] [rP (tSl (tInt .u8)) a21 p22 n23 x0] B I h (fun v L => ∃ a34 p35 n36, v = .slice a34 n36 p35 ∧ L = [rO (tSl (tInt .u8)) .i a34 p35 n36 r]) := by
 refine fc_of fun E hs => ?_
 unfold slices_Clone_byte.m at H
 cases hs.nP d0
 refine fn_of (rs := [.tmp 2]) (N := 8) Tryz.func278 rfl rfl rfl rfl ?_
 rcases a21 with _ | ad25
 ·have e26 := ((hs.sP d0).toSl.nil rfl).1
  replace H : (some []) = some r := by simpa [app, Lim, e26] using H
  obtain rfl := si H
  exact st 15 [true] (k_retQ ⟨_, by kernel_rfl, I, _, ⟨none, 0, 0, rfl, rfl⟩, hs.pk (.f imON .n)⟩)
 refine st 14 [false] (k_op (nS (e := 31) hs .i (tSl (tInt .u8)) ([] : List (List Int)) [] 1 (.slice none 0 0) (.nil : Reps (tSl (tInt .u8)) (Cl.G .i E.B I) h [] []) ?_))
 intro b27 h hs
 obtain ⟨l29, m30, H⟩ := bind_some H
 refine st 1 [] (k_op (aO (e := 31) (bytes := 24) hs (hs.sP d1) m30 ?_))
 intro a31 p32 h hs
 obtain rfl := si H
 exact st 2 [] (k_retQ ⟨_, by kernel_rfl, I, _, ⟨a31, p32, l29.length, rfl, rfl⟩, hs.pk (.c d0 .n)⟩)
def mac_turned.l1.m (K : Nat) (x1 : Int) (l41 : List Int) : Nat → (List Int) → Int → Option ((List Int))
  | 0, _, _ => none
  | k + 1, x45, x50 => (letJ (α := Bool → Option ((List Int))) (fun (x60 : Bool) => (bif x60 then (if 0 ≤ x50 then (if x50 < (x45.length : Int) then (mac_turned.l1.m K x1 l41 k (x45.set x50.toNat (bXor .u8 (at_ x45 x50) x1)) (w64 (x50 + 1))) else none) else none) else (some (x45)))) fun (j61 : Bool → Option ((List Int))) => (if x50 < (l41.length : Int) then (j61 true) else (j61 false)))
def mac_turned.m (K : Nat) (x0 : (List Int)) (x1 : Int) : Option (List Int) :=
  (letJ (α := (List Int) → Option (List Int)) (fun (x35 : List Int) => ((mk 64 0).bind fun l41 => ((mac_turned.l1.m K x1 l41 K (cpy l41 x35) 0).bind fun x52 => (some x52)))) fun (j40 : (List Int) → Option (List Int)) => (letJ (α := Bool → Option (List Int)) (fun (x26 : Bool) => (bif x26 then ((hash_Of.m K [x0]).bind fun t30 => (j40 t30)) else (j40 x0))) fun (j27 : Bool → Option (List Int)) => (if (x0.length : Int) > 64 then (j27 true) else (j27 false))))
theorem mac_turned.calls {B I : Gh} {h : Heap} {K : Nat} {x0 : (List Int)} {x1 : Int} {a21 : Option Addr} {p22 : Nat} {n23 : Nat} {r : (List Int)} (H : mac_turned.m K x0 x1 = some r)  :
    Fc Tryz.prog 279 #[.slice a21 n23 p22, .int .u8 x1] [rR (tInt .u8) .b a21 p22 n23 x0] B I h (fun v L => ∃ a69 p70 n71, v = .slice a69 n71 p70 ∧ L = [rO (tInt .u8) .i a69 p70 n71 r]) := by
 refine fc_of fun E hs => ?_
 unfold mac_turned.m at H
 cases hs.nR d0
 refine fn_of (rs := [.tmp 4]) (N := 33) Tryz.func279 rfl rfl rfl rfl ?_
 refine st 5 [] ?_
 obtain ⟨j40, e68, H⟩ := letJ_some H
 refine k_join (fun ρ h => ∃ (x35 : List Int), ∃ a36 p37 n38 I, j40 x35 = some r ∧ Fits [(0, .slice a36 n38 p37), (1, .int .u8 x1)] ρ ∧ St E [rR (tInt .u8) .b a36 p37 n38 x35] I h) ?_ ?_
 ·refine st 1 [] ?_
  obtain ⟨j27, e34, H⟩ := letJ_some H
  refine k_join (fun ρ h => ∃ (x26 : Bool), ∃ I, j27 x26 = some r ∧ Fits [(0, .slice a21 x0.length p22), (1, .int .u8 x1), (10, .bool x26)] ρ ∧ St E [rR (tInt .u8) .b a21 p22 x0.length x0] I h) ?_ ?_
  ·refine st 3 [] (k_ite H (fun c25 H => ?_) (fun c25 H => ?_))
   ·exact st 1 [] (k_end ⟨true, I, H, ft, hs.pk (.c d0 .n)⟩)
   exact st 1 [] (k_end ⟨false, I, H, ft, hs.pk (.c d0 .n)⟩)
  clear H
  rintro ρ h ⟨x26, I, H, hf, hs⟩
  refine k_fits _ hf ?_ rfl
  subst e34
  try dsimp only at H
  cases x26
  ·rw [cond_false] at H
   exact st 2 [false] (k_end ⟨x0, a21, p22, x0.length, I, H, ft, hs.pk (.c d0 .n)⟩)
  rw [cond_true] at H
  have hz := hs
  obtain ⟨I, hs⟩ := hs.all (.r .n)
  refine st 4 [true] (k_op (nS (e := 31) hs .i (tSl (tInt .u8)) ([x0] : List (List Int)) [.slice a21 x0.length p22] 1 (.slice none 0 0) (Reps.cons (T := (tSl (tInt .u8))) (c := [.slice a21 x0.length p22]) (x := x0) ⟨_, _, _, rfl, (hs.g d0)⟩ (.nil : Reps (tSl (tInt .u8)) (Cl.G .i E.B I) h [] [])) ?_))
  intro b28 h hs
  obtain ⟨hk, bk⟩ := hs.call tk0 (.c (qO d0) .n)
  refine k_call H (fun _ m => hash_Of.calls m hk) ?_
  rintro t30 _ h H ⟨I, _, ⟨rfl, rfl, hl31⟩, hk⟩
  replace hs := bk hk ct0 rfl
  obtain ⟨I, hs⟩ : ∃ I, St E _ I _ := ⟨_, hz.back hs⟩
  refine k_op (nA hs (List.map (Value.int .u8) (List.replicate 32 (0 : Int))) (.agg (List.map (Value.int .u8) (List.replicate 32 (0 : Int))).toArray) ?_)
  intro b32 h hs
  refine k_op (sAN (l2 := t30) hs (List.length_replicate (n := 32) (a := (0 : Int))) hl31 ?_)
  intro h hs
  obtain ⟨I, hs⟩ := hs.fA hl31
  exact st 5 [] (k_end ⟨t30, (sa b32), 32, 32, I, H, ft, hs.pk (.w d0 imIB .n)⟩)
 clear H
 rintro ρ h ⟨x35, a36, p37, n38, I, H, hf, hs⟩
 refine k_fits _ hf ?_ rfl
 subst e68
 try dsimp only at H
 cases hs.nR d0
 obtain ⟨l41, m42, H⟩ := bind_some H
 refine st 2 [] (k_op (nM (e := 5) (kl := .i64) (kc := .i64) (bytes := 1) hs (tInt .u8) 0 (.int .u8 0) m42 (fun _ _ => rfl) ?_))
 intro b43 h hs
 refine st 6 [] (k_op (cO (e := 5) hs ((hs.sR d1).flat flat_int) ?_))
 intro h hs
 refine st 9 [] ?_
 obtain ⟨s51, m58, HR57⟩ := bind_some H
 refine k_loop 0 (fun k' ρ h => ∃ (x45 : List Int) (x50 : Int), ∃ a46 p47 n48 I, mac_turned.l1.m K x1 l41 k' x45 x50 = some s51 ∧ Fits [(1, .int .u8 x1), (6, .slice a46 n48 p47), (20, iv (l41.length : Int)), (21, iv x50)] ρ ∧ St E [rO (tInt .u8) .i a46 p47 n48 x45, rR (tInt .u8) .b a36 p37 x35.length x35] I h) (fun ρ h => ∃ (x52 : List Int), ∃ a53 p54 n55 I, x52 = s51 ∧ Fits [(6, .slice a53 n55 p54)] ρ ∧ St E [rO (tInt .u8) .i a53 p54 n55 x52, rR (tInt .u8) .b a36 p37 x35.length x35] I h) K ⟨(cpy l41 x35), 0, (sa b43), l41.length, l41.length, I, m58, ft, hs.pk (.c d0 (.c d0 .n))⟩ ?_ rfl ?_
 rotate_left
 ·rintro ρ h ⟨x52, a53, p54, n55, I, rfl, hf, hs⟩
  have H := HR57
  try dsimp only at H
  refine k_fits _ hf ?_ rfl
  cases hs.nO d0
  obtain rfl := si H
  exact st 5 [] (k_retQ ⟨_, by kernel_rfl, I, _, ⟨a53, p54, x52.length, rfl, rfl⟩, hs.pk (.c d0 .n)⟩)
 clear HR57 m58 H
 rintro k' ρ h ⟨x45, x50, a46, p47, n48, I, H, hf, hs⟩
 cases k' with
 | zero => cases H
 | succ k =>
  rw [mac_turned.l1.m] at H
  refine k_fits _ hf ?_ rfl
  cases hs.nO d0
  refine st 1 [] ?_
  obtain ⟨j61, e67, H⟩ := letJ_some H
  refine k_joinT (fun T ρ h => ∃ (x60 : Bool), ∃ I, j61 x60 = some s51 ∧ Fits [(1, .int .u8 x1), (6, .slice a46 x45.length p47), (20, iv (l41.length : Int)), (21, iv x50), (22, .bool x60)] ρ ∧ St E T I h) hs tl0 ?_ ?_
  ·refine st 1 [] (k_ite H (fun c59 H => ?_) (fun c59 H => ?_))
   ·exact st 1 [] (k_end ⟨true, I, H, ft, hs⟩)
   exact st 1 [] (k_end ⟨false, I, H, ft, hs⟩)
  clear H
  rintro ρ h ⟨x60, I, H, hf, hs⟩
  refine k_fits _ hf ?_ rfl
  subst e67
  try dsimp only at H
  cases x60
  ·rw [cond_false] at H
   refine st 2 [false] (k_out rfl ?_)
   obtain rfl := si H
   exact xE ⟨x45, a46, p47, x45.length, I, rfl, ft, hs.pk (.c d0 (.c d0 .n))⟩
  rw [cond_true] at H
  obtain ⟨c62, H⟩ := guard_pos H
  obtain ⟨c63, H⟩ := guard_pos H
  refine st 13 [true] (k_val (elemPtr a46 (x50.toNat * 1)) (pI (e := 5) (ik := .i64) (hs.sO d0) c62 c63) ?_)
  refine k_op (lC ((hs.sO d0).cell1 c62 c63) ?_)
  refine st 2 [] (k_val (elemPtr a46 (x50.toNat * 1)) (pI (e := 5) (ik := .i64) (hs.sO d0) c62 c63) ?_)
  obtain ⟨y65, g64, q66⟩ := (hs.sO d0).toSl.seg c62 c63
  obtain rfl := rep_int q66
  refine k_op (sE hs 0 [.int .u8 (bXor .u8 (at_ x45 x50) x1)] (bXor .u8 (at_ x45 x50) x1) c62 c63 g64 (ones_of rfl) rfl ?_)
  intro h hs
  exact st 6 [] (k_endL ⟨k, Nat.lt_succ_self _, (x45.set x50.toNat (bXor .u8 (at_ x45 x50) x1)), (w64 (x50 + 1)), a46, p47, x45.length, I, H, ft, hs.pk (.c d0 (.c d0 .n))⟩)
def mac_Code.m (K : Nat) (x0 : (List Int)) (x1 : (List (List Int))) : Option (List Int) :=
  ((slices_Clone_byte.m x1).bind fun t30 => ((mac_turned.m K x0 54).bind fun t35 => ((slices_Insert_byte.m t30 0 [t35]).bind fun t42 => ((hash_Of.m K t42).bind fun t47 => ((mac_turned.m K x0 92).bind fun t51 => ((hash_Of.m K [t51, t47]).bind fun t58 => (some t58)))))))
theorem mac_Code.calls {B I : Gh} {h : Heap} {K : Nat} {x0 : (List Int)} {x1 : (List (List Int))} {a21 : Option Addr} {p22 : Nat} {n23 : Nat} {a25 : Option Addr} {p26 : Nat} {n27 : Nat} {r : (List Int)} (H : mac_Code.m K x0 x1 = some r)  :
    Fc Tryz.prog 243 #[.slice a21 n23 p22, .slice a25 n27 p26] [rR (tInt .u8) .b a21 p22 n23 x0, rP (tSl (tInt .u8)) a25 p26 n27 x1] B I h (fun v L => v = .agg (List.map (Value.int .u8) r).toArray ∧ L = [] ∧ List.length r = 32) := by
 refine fc_of fun E hs => ?_
 unfold mac_Code.m at H
 cases hs.nR d0
 cases hs.nP d1
 refine fn_of2 (rs := [.cell 4 252]) (N := 18) Tryz.func243 rfl rfl rfl rfl ?_
 refine st 2 [] (k_op (nA hs (List.map (Value.int .u8) (List.replicate 32 (0 : Int))) (.agg (List.map (Value.int .u8) (List.replicate 32 (0 : Int))).toArray) ?_))
 intro b29 h hs
 obtain ⟨hk, bk⟩ := hs.call tk0 (.c (qMM d2) .n)
 refine st 4 [] (k_call H (fun _ m => slices_Clone_byte.calls m hk) ?_)
 rintro t30 _ h H ⟨I, _, ⟨a31, p32, n33, rfl, rfl⟩, hk⟩
 replace hs := bk hk ct1 rfl
 cases hs.nO d0
 obtain ⟨hk, bk⟩ := hs.call tk0 (.c (qB d2) .n)
 refine st 1 [] (k_call H (fun _ m => mac_turned.calls m hk) ?_)
 rintro t35 _ h H ⟨I, _, ⟨a36, p37, n38, rfl, rfl⟩, hk⟩
 replace hs := bk hk ct1 rfl
 cases hs.nO d0
 obtain ⟨I, hs⟩ := hs.fO
 refine k_op (nS (e := 31) hs .i (tSl (tInt .u8)) ([t35] : List (List Int)) [.slice a36 t35.length p37] 1 (.slice none 0 0) (Reps.cons (T := (tSl (tInt .u8))) (c := [.slice a36 t35.length p37]) (x := t35) ⟨_, _, _, rfl, (hs.g d0)⟩ (.nil : Reps (tSl (tInt .u8)) (Cl.G .i E.B I) h [] [])) ?_)
 intro b40 h hs
 obtain ⟨hk, bk⟩ := (hs.f d2).call tk2 .n
 refine k_call H (fun _ m => slices_Insert_byte.calls m hk) ?_
 rintro t42 _ h H ⟨I, _, ⟨a43, p44, n45, rfl, rfl⟩, hk⟩
 replace hs := bk hk ct1 rfl
 cases hs.nO d0
 obtain ⟨hk, bk⟩ := hs.call tk0 (.c (qO d0) .n)
 refine k_call H (fun _ m => hash_Of.calls m hk) ?_
 rintro t47 _ h H ⟨I, _, ⟨rfl, rfl, hl48⟩, hk⟩
 replace hs := bk hk ct0 rfl
 refine k_op (nA hs (List.map (Value.int .u8) (List.replicate 32 (0 : Int))) (.agg (List.map (Value.int .u8) (List.replicate 32 (0 : Int))).toArray) ?_)
 intro b49 h hs
 refine k_op (sAN (l2 := t47) hs (List.length_replicate (n := 32) (a := (0 : Int))) hl48 ?_)
 intro h hs
 refine st 2 [] ?_
 obtain ⟨I, hs⟩ := hs.fA hl48
 obtain ⟨hs0, bk0⟩ := hs.call tk0 (.c (qK d0) (.c (qB d4) .n))
 have hs := hs0
 refine k_regD hs0 5 ?_
 refine aRun [0, 2] 4 hs.keep ?_
 obtain ⟨hk, bk⟩ := hs.call tk0 (.c (qB d1) .n)
 refine aO1 1 rfl (o_call H (fun _ m => mac_turned.calls m hk) ?_)
 rintro t51 _ h H ⟨I, _, ⟨a52, p53, n54, rfl, rfl⟩, hk⟩
 replace hs := bk hk ct1 rfl
 cases hs.nO d0
 refine ⟨hs.keep, ?_⟩
 obtain ⟨I, hs⟩ := hs.fO
 refine aO1 3 rfl (nS (e := 31) hs .i (tSl (tInt .u8)) ([t51, t47] : List (List Int)) [.slice a52 t51.length p53, .slice (sa b49) 32 32] 1 (.slice none 0 0) (Reps.cons (T := (tSl (tInt .u8))) (c := [.slice a52 t51.length p53]) (x := t51) ⟨_, _, _, rfl, (hs.g d0)⟩ (Reps.cons (T := (tSl (tInt .u8))) (c := [.slice (sa b49) 32 32]) (x := t47) ⟨_, _, _, rfl, (hs.g d1)⟩ (.nil : Reps (tSl (tInt .u8)) (Cl.G .i E.B I) h [] []))) ?_)
 intro b56 h hs
 refine ⟨hs.keep, ?_⟩
 obtain ⟨hk, bk⟩ := hs.call tk0 (.c (qO d0) .n)
 refine aO1 4 rfl (o_call H (fun _ m => hash_Of.calls m hk) ?_)
 rintro t58 _ h H ⟨I, _, ⟨rfl, rfl, hl59⟩, hk⟩
 replace hs := bk hk ct0 rfl
 refine ⟨hs.keep, ?_⟩
 replace hs := hs.pk (.c d0 (.c d0 .n))
 replace hs := bk0 hs ct2 rfl
 refine aOL 5 rfl (sAN (l2 := t58) (hs.f d5) (List.length_replicate (n := 32) (a := (0 : Int))) hl59 ?_)
 intro h hs
 refine aEnd ?_
 obtain rfl := si H
 exact k_retQ ⟨[.agg (List.map (Value.int .u8) t58).toArray], (.cons (.agg (by kernel_rfl) (by kernel_rfl) (by kernel_rfl) ((hs.bl d0).arrSeg hl59)) .nil), I, _, ⟨rfl, rfl, hl59⟩, hs.pk .n⟩
def mac_Tag.m (K : Nat) (x0 : (List Int)) (x1 : (List (List Int))) : Option (List Int) :=
  ((mac_Code.m K x0 x1).bind fun t30 => (some (sub t30 0 16)))
theorem mac_Tag.calls {B I : Gh} {h : Heap} {K : Nat} {x0 : (List Int)} {x1 : (List (List Int))} {a21 : Option Addr} {p22 : Nat} {n23 : Nat} {a25 : Option Addr} {p26 : Nat} {n27 : Nat} {r : (List Int)} (H : mac_Tag.m K x0 x1 = some r)  :
    Fc Tryz.prog 201 #[.slice a21 n23 p22, .slice a25 n27 p26] [rR (tInt .u8) .b a21 p22 n23 x0, rP (tSl (tInt .u8)) a25 p26 n27 x1] B I h (fun v L => v = .agg (List.map (Value.int .u8) r).toArray ∧ L = [] ∧ List.length r = 16) := by
 refine fc_of fun E hs => ?_
 unfold mac_Tag.m at H
 cases hs.nR d0
 cases hs.nP d1
 refine fn_of2 (rs := [.cell 4 314]) (N := 12) Tryz.func201 rfl rfl rfl rfl ?_
 refine st 2 [] (k_op (nA hs (List.map (Value.int .u8) (List.replicate 16 (0 : Int))) (.agg (List.map (Value.int .u8) (List.replicate 16 (0 : Int))).toArray) ?_))
 intro b29 h hs
 obtain ⟨hk, bk⟩ := hs.call tk0 (.c (qB d1) (.c (qMM d2) .n))
 refine st 5 [] (k_call H (fun _ m => mac_Code.calls m hk) ?_)
 rintro t30 _ h H ⟨I, _, ⟨rfl, rfl, hl31⟩, hk⟩
 replace hs := bk hk ct0 rfl
 refine k_op (nA hs (List.map (Value.int .u8) (List.replicate 32 (0 : Int))) (.agg (List.map (Value.int .u8) (List.replicate 32 (0 : Int))).toArray) ?_)
 intro b32 h hs
 refine k_op (sAN (l2 := t30) hs (List.length_replicate (n := 32) (a := (0 : Int))) hl31 ?_)
 intro h hs
 obtain ⟨I, hs⟩ := hs.fA hl31
 replace hs := hs.part d0 (lo := 0) (hi := 16) (Int.le_refl 0) (by decide) (by rw [hl31]; decide)
 refine st 3 [] (k_val (.slice (slA (sa b32) 32 (Int.toNat (0 : Int)) 1) ((sub t30 0 16).length) (32 - Int.toNat (0 : Int))) (pSA (lo := 0) (hi := 16) 16 (by rw [hl31]; decide)) ?_)
 refine k_val (elemPtr (slA (sa b32) 32 (Int.toNat (0 : Int)) 1) 0) (pAP (m := 16) (et := 5) (hs.sR d0) (sub_len (lo := 0) (hi := 16) 16 (by rw [hl31]; decide)) (by decide)) ?_
 refine k_op (lG ((hs.sR d0).segInt (sub_len (lo := 0) (hi := 16) 16 (by rw [hl31]; decide)) (by decide)) ?_)
 refine k_op (sAN (l2 := (sub t30 0 16)) (hs.f d2) (List.length_replicate (n := 16) (a := (0 : Int))) (sub_len (lo := 0) (hi := 16) 16 (by rw [hl31]; decide)) ?_)
 intro h hs
 obtain rfl := si H
 exact st 1 [] (k_retQ ⟨[.agg (List.map (Value.int .u8) (sub t30 0 16)).toArray], (.cons (.agg (by kernel_rfl) (by kernel_rfl) (by kernel_rfl) ((hs.bl d0).arrSeg (sub_len (lo := 0) (hi := 16) 16 (by rw [hl31]; decide)))) .nil), I, _, ⟨rfl, rfl, (sub_len (lo := 0) (hi := 16) 16 (by rw [hl31]; decide))⟩, hs.pk .n⟩)
def frame_sided.m (x0 : Int) : Option Bool :=
  (if x0 = 0 then (some true) else (some (x0 == 1)))
theorem frame_sided.calls {x0 : Int} {h : Heap} {r : Bool} (H : frame_sided.m x0 = some r)   :
    Ret Tryz.prog 199 #[iv x0] h (fun v h' => .bool r = v ∧ h' = h) := by
 unfold frame_sided.m at H
 refine fn_of (rs := [.tmp 2]) (N := 9) Tryz.func199 rfl rfl rfl rfl ?_
 refine st 7 [] (k_ite H (fun c21 H => ?_) (fun c21 H => ?_))
 ·obtain rfl := si H
  exact st 6 [] (k_retQ ⟨_, by kernel_rfl, rfl, rfl⟩)
 obtain rfl := si H
 exact st 6 [] (k_retQ ⟨_, by kernel_rfl, rfl, rfl⟩)
def frame_Seal.l1.m (K : Nat) (x1 : api_Frame) : Nat → (List Int) → Int → Option ((List Int))
  | 0, _, _ => none
  | k + 1, x37, x42 => (letJ (α := Bool → Option ((List Int))) (fun (x52 : Bool) => (bif x52 then (if 0 ≤ (w64 (56 - (w64 (8 * x42)))) then ((app x37 [(IntKind.u8.wrap ((shr .i64 x1.Seq (w64 (56 - (w64 (8 * x42)))))))]).bind fun l57 => (frame_Seal.l1.m K x1 k l57 (w64 (x42 + 1)))) else none) else (some (x37)))) fun (j53 : Bool → Option ((List Int))) => (if x42 < 8 then (j53 true) else (j53 false)))
def frame_Seal.m (K : Nat) (x0 : (List Int)) (x1 : api_Frame) : Option ((List Int) × GoErr) :=
  (letJ (α := Bool → Option ((List Int) × GoErr)) (fun (x32 : Bool) => (bif x32 then (some ([], (GoErr.no 1))) else (if (x1.Body.length : Int) > 486 then (some ([], (GoErr.no 6))) else ((frame_Seal.l1.m K x1 K [1, (IntKind.u8.wrap (x1.Dir))] 0).bind fun x44 => ((app x44 x1.Body).bind fun l63 => ((mac_Tag.m K x0 [l63]).bind fun t70 => ((app l63 t70).bind fun l74 => (some (l74, GoErr.nil))))))))) fun (j33 : Bool → Option ((List Int) × GoErr)) => ((frame_sided.m x1.Dir).bind fun t30 => bif t30 then ((frame_numbered.m x1.Seq).bind fun t31 => bif t31 then (j33 false) else (j33 true)) else (j33 true)))
theorem frame_Seal.calls {B I : Gh} {h : Heap} {K : Nat} {x0 : (List Int)} {x1 : api_Frame} {a21 : Option Addr} {p22 : Nat} {n23 : Nat} {a25 : Option Addr} {p26 : Nat} {n27 : Nat} {r : ((List Int) × GoErr)} (H : frame_Seal.m K x0 x1 = some r)  :
    Fc Tryz.prog 139 #[.slice a21 n23 p22, .agg #[iv x1.Dir, iv x1.Seq, .slice a25 n27 p26]] [rR (tInt .u8) .b a21 p22 n23 x0, rR (tInt .u8) .b a25 p26 n27 x1.Body] B I h (fun v L => ∃ a80 p81 n82 v84, v = .tuple #[.slice a80 n82 p81, v84] ∧ L = [rO (tInt .u8) .i a80 p81 n82 r.1, rE .i v84 r.2]) := by
 refine fc_of fun E hs => ?_
 unfold frame_Seal.m at H
 cases hs.nR d0
 cases hs.nR d1
 refine fn_of (rs := [.tmp 4, .tmp 5]) (N := 56) Tryz.func139 rfl rfl rfl rfl ?_
 refine st 2 [] (k_op (nB hs [iv x1.Dir, iv x1.Seq, .slice a25 x1.Body.length p26] ?_))
 intro b29 h hs
 refine st 6 [] ?_
 obtain ⟨j33, e79, H⟩ := letJ_some H
 refine k_joinT (fun T ρ h => ∃ (x32 : Bool), ∃ I, j33 x32 = some r ∧ Fits [(0, .slice a21 x0.length p22), (3, pv b29), (9, .bool x32)] ρ ∧ St E T I h) hs tl0 ?_ ?_
 ·refine st 2 [] (k_op (lB (hs.bl d0) 0 rfl ?_))
  refine k_call H (fun _ m => frame_sided.calls m) ?_
  rintro t30 _ _ H ⟨rfl, rfl⟩
  cases t30
  ·rw [cond_false] at H
   exact st 9 [] (k_end ⟨true, I, H, ft, hs⟩)
  rw [cond_true] at H
  refine st 3 [] (k_op (lB (hs.bl d0) 1 rfl ?_))
  refine k_call H (fun _ m => frame_numbered.calls m) ?_
  rintro t31 _ _ H ⟨rfl, rfl⟩
  cases t31
  ·rw [cond_false] at H
   exact st 4 [] (k_end ⟨true, I, H, ft, hs⟩)
  rw [cond_true] at H
  exact st 4 [] (k_end ⟨false, I, H, ft, hs⟩)
 clear H
 rintro ρ h ⟨x32, I, H, hf, hs⟩
 refine k_fits _ hf ?_ rfl
 subst e79
 try dsimp only at H
 cases x32
 rotate_left
 ·rw [cond_true] at H
  obtain rfl := si H
  exact st 7 [true] (k_retQ ⟨_, by kernel_rfl, I, _, ⟨none, 0, 0, (.iface 137 (iv 1)), rfl, rfl⟩, hs.pk (.f imON (.f imEC .n))⟩)
 rw [cond_false] at H
 refine st 4 [false] (k_op (lB (hs.bl d0) 2 rfl ?_))
 refine st 1 [] (k_ite H (fun c34 H => ?_) (fun c34 H => ?_))
 ·obtain rfl := si H
  exact st 9 [true] (k_retQ ⟨_, by kernel_rfl, I, _, ⟨none, 0, 0, (.iface 137 (iv 6)), rfl, rfl⟩, hs.pk (.f imON (.f imEC .n))⟩)
 refine st 8 [false] (k_op (lB (hs.bl d0) 0 rfl ?_))
 refine st 1 [] (k_op (nS (e := 5) hs .i (tInt .u8) ([1, (IntKind.u8.wrap (x1.Dir))] : List Int) [.int .u8 1, .int .u8 (IntKind.u8.wrap (x1.Dir))] 1 (.int .u8 0) (Reps.int (I := (Cl.G .i E.B I)) (k := .u8) (l := [1, (IntKind.u8.wrap (x1.Dir))])) ?_))
 intro b35 h hs
 refine st 8 [] ?_
 obtain ⟨s43, m50, HR49⟩ := bind_some H
 refine k_loopT hs tl1 1 (fun T k' ρ h => ∃ (x37 : List Int) (x42 : Int), ∃ a38 p39 n40 I, frame_Seal.l1.m K x1 k' x37 x42 = some s43 ∧ Fits [(0, .slice a21 x0.length p22), (3, pv b29), (6, .slice a38 n40 p39), (31, iv x42)] ρ ∧ St E (rO (tInt .u8) .i a38 p39 n40 x37 :: T) I h) (fun T ρ h => ∃ (x44 : List Int), ∃ a45 p46 n47 I, x44 = s43 ∧ Fits [(0, .slice a21 x0.length p22), (3, pv b29), (6, .slice a45 n47 p46)] ρ ∧ St E (rO (tInt .u8) .i a45 p46 n47 x44 :: T) I h) K ⟨[1, (IntKind.u8.wrap (x1.Dir))], 0, (sa b35), 2, 2, I, m50, ft, hs.pk (.c d0 pk0)⟩ ?_ rfl ?_
 rotate_left
 ·rintro ρ h ⟨x44, a45, p46, n47, I, rfl, hf, hs⟩
  have H := HR49
  try dsimp only at H
  refine k_fits _ hf ?_ rfl
  cases hs.nO d0
  refine st 4 [] (k_op (lB (hs.bl d1) 2 rfl ?_))
  obtain ⟨l63, m64, H⟩ := bind_some H
  refine k_op (aO (e := 5) (bytes := 1) hs ((hs.sR d3).flat flat_int) m64 ?_)
  intro a65 p66 h hs
  have hz := hs
  obtain ⟨I, hs⟩ := hs.all (.o (.d (.r (.r .n))))
  refine st 6 [] (k_op (nS (e := 31) hs .i (tSl (tInt .u8)) ([l63] : List (List Int)) [.slice a65 l63.length p66] 1 (.slice none 0 0) (Reps.cons (T := (tSl (tInt .u8))) (c := [.slice a65 l63.length p66]) (x := l63) ⟨_, _, _, rfl, (hs.g d0)⟩ (.nil : Reps (tSl (tInt .u8)) (Cl.G .i E.B I) h [] [])) ?_))
  intro b68 h hs
  obtain ⟨hk, bk⟩ := hs.call tk0 (.c (qI d2) (.c (qMO d0) .n))
  refine k_call H (fun _ m => mac_Tag.calls m hk) ?_
  rintro t70 _ h H ⟨I, _, ⟨rfl, rfl, hl71⟩, hk⟩
  replace hs := bk hk ct0 rfl
  obtain ⟨I, hs⟩ : ∃ I, St E _ I _ := ⟨_, hz.back hs⟩
  refine k_op (nA hs (List.map (Value.int .u8) (List.replicate 16 (0 : Int))) (.agg (List.map (Value.int .u8) (List.replicate 16 (0 : Int))).toArray) ?_)
  intro b72 h hs
  refine k_op (sAN (l2 := t70) hs (List.length_replicate (n := 16) (a := (0 : Int))) hl71 ?_)
  intro h hs
  obtain ⟨I, hs⟩ := hs.fA hl71
  replace hs := (hs.f d1)
  obtain ⟨l74, m75, H⟩ := bind_some H
  refine st 5 [] (k_op (aO (e := 5) (bytes := 1) hs (hs.sR d1) m75 ?_))
  intro a76 p77 h hs
  obtain rfl := si H
  exact st 3 [] (k_retQ ⟨_, by kernel_rfl, I, _, ⟨a76, p77, l74.length, (.nilIface), rfl, rfl⟩, hs.pk (.c d0 (.f imEN .n))⟩)
 clear HR49 m50 H
 rintro k' ρ h ⟨x37, x42, a38, p39, n40, I, H, hf, hs⟩
 cases k' with
 | zero => cases H
 | succ k =>
  rw [frame_Seal.l1.m] at H
  refine k_fits _ hf ?_ rfl
  cases hs.nO d0
  refine st 1 [] ?_
  obtain ⟨j53, e62, H⟩ := letJ_some H
  refine k_joinT (fun T ρ h => ∃ (x52 : Bool), ∃ I, j53 x52 = some s43 ∧ Fits [(0, .slice a21 x0.length p22), (3, pv b29), (6, .slice a38 x37.length p39), (31, iv x42), (32, .bool x52)] ρ ∧ St E T I h) hs tl0 ?_ ?_
  ·refine st 1 [] (k_ite H (fun c51 H => ?_) (fun c51 H => ?_))
   ·exact st 1 [] (k_end ⟨true, I, H, ft, hs⟩)
   exact st 1 [] (k_end ⟨false, I, H, ft, hs⟩)
  clear H
  rintro ρ h ⟨x52, I, H, hf, hs⟩
  refine k_fits _ hf ?_ rfl
  subst e62
  try dsimp only at H
  cases x52
  ·rw [cond_false] at H
   refine st 2 [false] (k_out rfl ?_)
   obtain rfl := si H
   exact xE ⟨x37, a38, p39, x37.length, I, rfl, ft, hs.pk (.c d0 pk0)⟩
  rw [cond_true] at H
  refine st 13 [true] (k_op (lB (hs.bl d1) 1 rfl ?_))
  obtain ⟨c54, H⟩ := guard_pos H
  refine st 3 [] (k_val (iv (shr .i64 x1.Seq (w64 (56 - (w64 (8 * x42)))))) (pr_shr (k := .i64) (yk := .i64) (a := x1.Seq) (b := (w64 (56 - (w64 (8 * x42))))) (by kernel_rfl) (by kernel_rfl) c54) ?_)
  refine st 1 [] (k_op (nS (e := 5) hs .i (tInt .u8) ([(IntKind.u8.wrap ((shr .i64 x1.Seq (w64 (56 - (w64 (8 * x42)))))))] : List Int) [.int .u8 (IntKind.u8.wrap ((shr .i64 x1.Seq (w64 (56 - (w64 (8 * x42)))))))] 1 (.int .u8 0) (Reps.int (I := (Cl.G .i E.B I)) (k := .u8) (l := [(IntKind.u8.wrap ((shr .i64 x1.Seq (w64 (56 - (w64 (8 * x42)))))))])) ?_))
  intro b55 h hs
  replace hs := (hs.f d1)
  obtain ⟨l57, m58, H⟩ := bind_some H
  refine k_op (aO (e := 5) (bytes := 1) hs (hs.sO d1) m58 ?_)
  intro a59 p60 h hs
  exact st 7 [] (k_endL ⟨k, Nat.lt_succ_self _, l57, (w64 (x42 + 1)), a59, p60, l57.length, I, H, ft, hs.pk (.c d0 pk1)⟩)
def side_side_packs.l1.m (K : Nat) (x0 : side_side) (t38 : ((List api_Pack) × line_Line)) : Nat → (List (List Int)) → Int → Int → Option ((List (List Int)) × Int)
  | 0, _, _, _ => none
  | k + 1, x47, x52, x53 => (letJ (α := Bool → Option ((List (List Int)) × Int)) (fun (x64 : Bool) => (bif x64 then (if 0 ≤ x52 then (if x52 < (t38.1.length : Int) then ((piece_Write.m K (at_ t38.1 x52)).bind fun t77 => (if t77.2 = GoErr.nil then ((frame_Seal.m K x0.key' (⟨x0.dir', (w64 (x53 + 1)), t77.1⟩ : api_Frame)).bind fun t87 => (if t87.2 = GoErr.nil then ((app x47 [t87.1]).bind fun l99 => (side_side_packs.l1.m K x0 t38 k l99 (w64 (x52 + 1)) (w64 (x53 + 1)))) else (side_side_packs.l1.m K x0 t38 k x47 (w64 (x52 + 1)) (w64 (x53 + 1))))) else (side_side_packs.l1.m K x0 t38 k x47 (w64 (x52 + 1)) x53))) else none) else none) else (some ((x47, x53))))) fun (j65 : Bool → Option ((List (List Int)) × Int)) => (if x52 < (t38.1.length : Int) then (j65 true) else (j65 false)))
def side_side_packs.m (K : Nat) (x0 : side_side) : Option ((List (List Int)) × side_side) :=
  ((line_Line_Tick.m K x0.line').bind fun t38 => ((side_side_packs.l1.m K x0 t38 K [] 0 x0.seq').bind fun (x55, x60) => (some (x55, (⟨x0.key', x0.gate', (⟨t38.2.queue', t38.2.given', t38.2.await', x0.line'.kept', x0.line'.coming', t38.2.wait', t38.2.left', t38.2.owes'⟩ : line_Line), x0.dir', x60⟩ : side_side)))))
theorem side_side_packs.calls {B I : Gh} {h : Heap} {K : Nat} {x0 : side_side} {b0 : Nat} {a21 : Option Addr} {p22 : Nat} {n23 : Nat} {v25 : Value} {b26 : Nat} {a27 : Option Addr} {p28 : Nat} {n29 : Nat} {b31 : Nat} {a32 : Option Addr} {p33 : Nat} {n34 : Nat} {tl36 : List Value} {TT37 : TypeId} {r : ((List (List Int)) × side_side)} (H : side_side_packs.m K x0 = some r)  :
    Fc Tryz.prog 89 #[pv b0] [rB b0 (.slice a21 n23 p22 :: v25 :: iv x0.gate'.Dir :: iv x0.gate'.Seen.Top :: .int .u64 x0.gate'.Seen.Bits :: .string x0.gate'.Peer.Addr :: iv x0.gate'.Peer.Seq :: pv b26 :: iv x0.dir' :: iv x0.seq' :: tl36) TT37, rB b26 [.slice a27 n29 p28, iv x0.line'.given', iv x0.line'.await', .map (some b31), .slice a32 n34 p33, iv x0.line'.wait', iv x0.line'.left', .bool x0.line'.owes'] 239, rO t_api_Pack .i a27 p28 n29 x0.line'.queue', rM t_api_Pack b31 x0.line'.kept', rO (tInt .u8) .i a32 p33 n34 x0.line'.coming', rR (tInt .u8) .i a21 p22 n23 x0.key'] B I h (fun v L => ∃ a105 p106 n107 a109 p110 n111 a113 p114 n115 a117 p118 n119, v = .slice a105 n107 p106 ∧ L = [rO (tSl (tInt .u8)) .i a105 p106 n107 r.1, rB b0 (.slice a109 n111 p110 :: v25 :: iv r.2.gate'.Dir :: iv r.2.gate'.Seen.Top :: .int .u64 r.2.gate'.Seen.Bits :: .string r.2.gate'.Peer.Addr :: iv r.2.gate'.Peer.Seq :: pv b26 :: iv r.2.dir' :: iv r.2.seq' :: tl36) TT37, rR (tInt .u8) .i a109 p110 n111 r.2.key', rB b26 [.slice a113 n115 p114, iv r.2.line'.given', iv r.2.line'.await', .map (some b31), .slice a117 n119 p118, iv r.2.line'.wait', iv r.2.line'.left', .bool r.2.line'.owes'] 239, rO t_api_Pack .i a113 p114 n115 r.2.line'.queue', rM t_api_Pack b31 r.2.line'.kept', rO (tInt .u8) .i a117 p118 n119 r.2.line'.coming']) := by
 refine fc_of fun E hs => ?_
 unfold side_side_packs.m at H
 cases hs.nO d2
 cases hs.nO d4
 cases hs.nR d5
 refine fn_of (rs := [.tmp 2]) (N := 59) Tryz.func89 rfl rfl rfl rfl ?_
 refine st 14 [] (k_op (lB (hs.bl d0) 7 rfl ?_))
 obtain ⟨hk, bk⟩ := ((hs.f d2).f d2).call tk2 .n
 refine k_call H (fun _ m => line_Line_Tick.calls m hk) ?_
 rintro t38 _ h H ⟨I, _, ⟨a39, p40, n41, a43, p44, n45, rfl, rfl⟩, hk⟩
 replace hs := bk hk ct3 rfl
 cases hs.nO d0
 cases hs.nO d2
 refine st 4 [] ?_
 obtain ⟨s54, m62, HR61⟩ := bind_some H
 refine k_loopT hs tl4 0 (fun T k' ρ h => ∃ (x47 : List (List Int)) (x52 : Int) (x53 : Int), ∃ a48 p49 n50 I, side_side_packs.l1.m K x0 t38 k' x47 x52 x53 = some s54 ∧ Fits [(0, pv b0), (3, .slice a48 n50 p49), (13, .slice a39 t38.1.length p40), (14, iv (t38.1.length : Int)), (15, iv x52)] ρ ∧ St E (rO (tSl (tInt .u8)) .i a48 p49 n50 x47 :: rO t_api_Pack .i a39 p40 t38.1.length t38.1 :: rB b0 (.slice a21 x0.key'.length p22 :: v25 :: iv x0.gate'.Dir :: iv x0.gate'.Seen.Top :: .int .u64 x0.gate'.Seen.Bits :: .string x0.gate'.Peer.Addr :: iv x0.gate'.Peer.Seq :: pv b26 :: iv x0.dir' :: iv x53 :: tl36) TT37 :: rO t_api_Pack .i a43 p44 t38.2.queue'.length t38.2.queue' :: rB b26 [.slice a43 t38.2.queue'.length p44, iv t38.2.given', iv t38.2.await', .map (some b31), .slice a32 x0.line'.coming'.length p33, iv t38.2.wait', iv t38.2.left', .bool t38.2.owes'] 239 :: T) I h) (fun T ρ h => ∃ (x55 : List (List Int)) (x60 : Int), ∃ a56 p57 n58 I, (x55, x60) = s54 ∧ Fits [(3, .slice a56 n58 p57)] ρ ∧ St E (rO (tSl (tInt .u8)) .i a56 p57 n58 x55 :: rB b0 (.slice a21 x0.key'.length p22 :: v25 :: iv x0.gate'.Dir :: iv x0.gate'.Seen.Top :: .int .u64 x0.gate'.Seen.Bits :: .string x0.gate'.Peer.Addr :: iv x0.gate'.Peer.Seq :: pv b26 :: iv x0.dir' :: iv x60 :: tl36) TT37 :: rO t_api_Pack .i a43 p44 t38.2.queue'.length t38.2.queue' :: rB b26 [.slice a43 t38.2.queue'.length p44, iv t38.2.given', iv t38.2.await', .map (some b31), .slice a32 x0.line'.coming'.length p33, iv t38.2.wait', iv t38.2.left', .bool t38.2.owes'] 239 :: T) I h) K ⟨[], 0, x0.seq', none, 0, 0, I, m62, ft, hs.pk (.f imON (.c d0 (.c d2 (.c d1 (.c d0 pk0)))))⟩ ?_ rfl ?_
 rotate_left
 ·rintro ρ h ⟨x55, x60, a56, p57, n58, I, rfl, hf, hs⟩
  have H := HR61
  try dsimp only at H
  refine k_fits _ hf ?_ rfl
  cases hs.nO d0
  obtain rfl := si H
  exact st 5 [] (k_retQ ⟨_, by kernel_rfl, I, _, ⟨a56, p57, x55.length, a21, p22, x0.key'.length, a43, p44, t38.2.queue'.length, a32, p33, x0.line'.coming'.length, rfl, rfl⟩, hs.pk (.c d0 (.c d0 (.c d4 (.c d1 (.c d0 (.c d0 (.c d0 .n)))))))⟩)
 clear HR61 m62 H
 rintro k' ρ h ⟨x47, x52, x53, a48, p49, n50, I, H, hf, hs⟩
 cases k' with
 | zero => cases H
 | succ k =>
  rw [side_side_packs.l1.m] at H
  refine k_fits _ hf ?_ rfl
  cases hs.nO d0
  refine st 1 [] ?_
  obtain ⟨j65, e104, H⟩ := letJ_some H
  refine k_joinT (fun T ρ h => ∃ (x64 : Bool), ∃ I, j65 x64 = some s54 ∧ Fits [(0, pv b0), (3, .slice a48 x47.length p49), (13, .slice a39 t38.1.length p40), (14, iv (t38.1.length : Int)), (15, iv x52), (16, .bool x64)] ρ ∧ St E T I h) hs tl0 ?_ ?_
  ·refine st 1 [] (k_ite H (fun c63 H => ?_) (fun c63 H => ?_))
   ·exact st 1 [] (k_end ⟨true, I, H, ft, hs⟩)
   exact st 1 [] (k_end ⟨false, I, H, ft, hs⟩)
  clear H
  rintro ρ h ⟨x64, I, H, hf, hs⟩
  refine k_fits _ hf ?_ rfl
  subst e104
  try dsimp only at H
  cases x64
  ·rw [cond_false] at H
   refine st 2 [false] (k_out rfl ?_)
   obtain rfl := si H
   exact xE ⟨x47, x53, a48, p49, x47.length, I, rfl, ft, hs.pk (.c d0 (.c d1 (.c d1 (.c d1 pk1))))⟩
  rw [cond_true] at H
  obtain ⟨c66, H⟩ := guard_pos H
  obtain ⟨c67, H⟩ := guard_pos H
  refine st 7 [true] (k_val (elemPtr a39 (x52.toNat * 4)) (pI (e := 108) (ik := .i64) (hs.sO d1) c66 c67) ?_)
  obtain ⟨y69, g68, q70⟩ := (hs.sO d1).toSl.seg c66 c67
  obtain ⟨a71, p72, n73, rfl, q75⟩ := t_api_Pack.open_ q70
  obtain rfl := q75.2
  replace hs := hs.pR q75
  refine k_op (lG g68 ?_)
  refine k_op (nA hs [iv 0, iv 0, .bool false, .slice none 0 0] (.agg #[iv 0, iv 0, .bool false, .slice none 0 0]) ?_)
  intro b76 h hs
  refine k_op (sN0 hs [iv ((at_ t38.1 x52).Ack), iv ((at_ t38.1 x52).Num), .bool ((at_ t38.1 x52).Last), .slice a71 (((at_ t38.1 x52).Data).length) p72] (ones_of rfl) ?_)
  intro h hs
  refine st 3 [] (k_op (lN (hs.bl d0) 0 4 ?_))
  obtain ⟨hk, bk⟩ := hs.call tk0 (.c (qI d1) .n)
  refine k_call H (fun _ m => piece_Write.calls m hk) ?_
  rintro t77 _ h H ⟨I, _, ⟨a78, p79, n80, v82, rfl, rfl⟩, hk⟩
  replace hs := bk hk ct2 rfl
  cases hs.nO d0
  rcases (hs.er d1).cases with ⟨c84, rfl⟩ | ⟨c84, t85, u86, rfl⟩
  rotate_left
  ·rw [if_neg c84] at H
   exact st 18 [true] (k_endL ⟨k, Nat.lt_succ_self _, x47, (w64 (x52 + 1)), x53, a48, p49, x47.length, I, H, ft, hs.pk (.c d4 (.c d4 (.c d4 (.c d4 (.c d4 pk4)))))⟩)
  rw [if_pos c84] at H
  refine st 19 [false] (k_op (lB (hs.bl d6) 9 rfl ?_))
  refine st 3 [] (k_op (sB (v := iv (w64 (x53 + 1))) (hs.f d6) cw9 ?_))
  intro h hs
  refine st 2 [] ?_
  obtain ⟨hs0, bk0⟩ := hs.call tk0 (.c (qL d0) (.c (qK d11) (.c (qO d1) .n)))
  have hs := hs0
  refine k_regD hs0 20 ?_
  refine aRun [0, 1, 2] 17 hs.keep ?_
  refine aL 3 rfl hs.keep (ll hs0 d0 (n := 0) rfl) (nmL hs0 d0) ?_
  refine aRun [4, 5, 6] 13 hs.keep ?_
  refine aL 7 rfl hs.keep (ll hs0 d0 (n := 8) rfl) (nmL hs0 d0) ?_
  refine aRun [8, 9, 10] 9 hs.keep ?_
  refine aL 11 rfl hs.keep (ll hs0 d0 (n := 9) rfl) (nmL hs0 d0) ?_
  refine aRun [12, 13] 6 hs.keep ?_
  obtain ⟨hk, bk⟩ := hs.call tk0 (.c (qI d1) (.c (qB d2) .n))
  refine aO1 14 rfl (o_call H (fun _ m => frame_Seal.calls m hk) ?_)
  rintro t87 _ h H ⟨I, _, ⟨a88, p89, n90, v92, rfl, rfl⟩, hk⟩
  replace hs := bk hk ct2 rfl
  cases hs.nO d0
  refine ⟨hs.keep, ?_⟩
  refine aRun [15, 16, 17, 18, 19] 0 hs.keep ?_
  replace hs := hs.pk (.c d0 (.c d0 .n))
  replace hs := bk0 hs ct2 rfl
  refine aEnd ?_
  rcases (hs.er d1).cases with ⟨c94, rfl⟩ | ⟨c94, t95, u96, rfl⟩
  rotate_left
  ·rw [if_neg c94] at H
   exact st 12 [false] (k_endL ⟨k, Nat.lt_succ_self _, x47, (w64 (x52 + 1)), (w64 (x53 + 1)), a48, p49, x47.length, I, H, ft, hs.pk (.c d7 (.c d7 (.c d2 (.c d6 (.c d6 pk6)))))⟩)
  rw [if_pos c94] at H
  obtain ⟨I, hs⟩ := hs.fO
  refine st 9 [true] (k_op (nS (e := 31) hs .i (tSl (tInt .u8)) ([t87.1] : List (List Int)) [.slice a88 t87.1.length p89] 1 (.slice none 0 0) (Reps.cons (T := (tSl (tInt .u8))) (c := [.slice a88 t87.1.length p89]) (x := t87.1) ⟨_, _, _, rfl, (hs.g d0)⟩ (.nil : Reps (tSl (tInt .u8)) (Cl.G .i E.B I) h [] [])) ?_))
  intro b97 h hs
  replace hs := (hs.f d8)
  obtain ⟨l99, m100, H⟩ := bind_some H
  refine k_op (aO (e := 31) (bytes := 24) hs (hs.sO d1) m100 ?_)
  intro a101 p102 h hs
  exact st 7 [] (k_endL ⟨k, Nat.lt_succ_self _, l99, (w64 (x52 + 1)), (w64 (x53 + 1)), a101, p102, l99.length, I, H, ft, hs.pk (.c d0 (.c d8 (.c d3 (.c d7 (.c d7 pk7)))))⟩)
end Go.Proofs.YtjkbhpokboolpaaGreatDoor.Sx
