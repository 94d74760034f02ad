import Derived.Test.YtjkbhpokboolpaaGreatDoorProg
import Derived.Test.YtjkbhpokboolpaaGreatDoorV4
import Derived.Test.YtjkbhpokboolpaaGreatDoorV5
import Derived.Test.YtjkbhpokboolpaaGreatDoorVF
import Derived.Test.YtjkbhpokboolpaaGreatDoorV6
import Derived.Test.YtjkbhpokboolpaaGreatDoorV7
import Derived.Test.YtjkbhpokboolpaaGreatDoorV9
import Derived.Test.YtjkbhpokboolpaaGreatDoorVD
import Derived.Test.YtjkbhpokboolpaaGreatDoorVC
import Derived.Test.YtjkbhpokboolpaaGreatDoorG0
import Derived.Test.YtjkbhpokboolpaaGreatDoorG1
namespace Go.Proofs.YtjkbhpokboolpaaGreatDoor.Sx
open Go
set_option maxRecDepth 100000
set_option maxHeartbeats 4000000
def slices_IndexFunc_api_Cell__field_Formatted_1.l1.m (K : Nat) (x0 : (List api_Cell)) : Nat → Int → Option (Int ⊕ (Unit))
  | 0, _ => none
  | k + 1, x25 => (letJ (α := Bool → Option (Int ⊕ (Unit))) (fun (x30 : Bool) => (bif x30 then (if 0 ≤ x25 then (if x25 < (x0.length : Int) then ((field_Formatted_1.m (⟨(at_ x0 x25).Field, ((at_ x0 x25).Attr), (at_ x0 x25).Char⟩ : api_Cell)).bind fun t37 => bif t37 then (some (Sum.inl x25)) else (slices_IndexFunc_api_Cell__field_Formatted_1.l1.m K x0 k (w64 (x25 + 1)))) else none) else none) else (some (Sum.inr ())))) fun (j31 : Bool → Option (Int ⊕ (Unit))) => (if x25 < (x0.length : Int) then (j31 true) else (j31 false)))
def slices_IndexFunc_api_Cell__field_Formatted_1.m (K : Nat) (x0 : (List api_Cell)) : Option Int :=
  ((slices_IndexFunc_api_Cell__field_Formatted_1.l1.m K x0 K 0).bind fun s26 => match s26 with | .inl q => (some q) | .inr _ => (some (-1)))
theorem slices_IndexFunc_api_Cell__field_Formatted_1.calls {B I : Gh} {h : Heap} {K : Nat} {x0 : (List api_Cell)} {a21 : Option Addr} {p22 : Nat} {n23 : Nat} {r : Int} (H : slices_IndexFunc_api_Cell__field_Formatted_1.m K x0 = some r)  :
    Fc Tryz.prog 308 #[.slice a21 n23 p22, .func (.func 295) #[] #[]] [rR t_api_Cell .b a21 p22 n23 x0] B I h (fun v L => v = iv r ∧ L = []) := by
 refine fc_of fun E hs => ?_
 unfold slices_IndexFunc_api_Cell__field_Formatted_1.m at H
 cases hs.nR d0
 refine fn_of (rs := [.tmp 4]) (N := 19) Tryz.func308 rfl rfl rfl rfl ?_
 refine st 12 [] ?_
 obtain ⟨s26, m28, HR27⟩ := bind_some H
 refine k_loop 0 (fun k' ρ h => ∃ (x25 : Int), ∃ I, slices_IndexFunc_api_Cell__field_Formatted_1.l1.m K x0 k' x25 = some s26 ∧ Fits [(0, .slice a21 x0.length p22), (1, .func (.func 295) #[] #[]), (7, iv (x0.length : Int)), (8, iv x25)] ρ ∧ St E [rR t_api_Cell .b a21 p22 x0.length x0] I h) (fun ρ h => ∃ I, Sum.inr () = s26 ∧ Fits [] ρ ∧ St E [rR t_api_Cell .b a21 p22 x0.length x0] I h) K ⟨0, I, m28, ft, hs.pk (.c d0 .n)⟩ ?_ rfl ?_
 rotate_left
 ·rintro ρ h ⟨I, rfl, hf, hs⟩
  have H := HR27
  try dsimp only at H
  refine k_fits _ hf ?_ rfl
  obtain rfl := si H
  exact st 4 [] (k_retQ ⟨_, by kernel_rfl, I, _, ⟨rfl, rfl⟩, hs.pk .n⟩)
 clear m28 H
 rintro k' ρ h ⟨x25, I, H, hf, hs⟩
 cases k' with
 | zero => cases H
 | succ k =>
  rw [slices_IndexFunc_api_Cell__field_Formatted_1.l1.m] at H
  refine k_fits _ hf ?_ rfl
  refine st 1 [] ?_
  obtain ⟨j31, e38, H⟩ := letJ_some H
  refine k_join (fun ρ h => ∃ (x30 : Bool), ∃ I, j31 x30 = some s26 ∧ Fits [(0, .slice a21 x0.length p22), (1, .func (.func 295) #[] #[]), (7, iv (x0.length : Int)), (8, iv x25), (9, .bool x30)] ρ ∧ St E [rR t_api_Cell .b a21 p22 x0.length x0] I h) ?_ ?_
  ·refine st 1 [] (k_ite H (fun c29 H => ?_) (fun c29 H => ?_))
   ·exact st 1 [] (k_end ⟨true, I, H, ft, hs.pk (.c d0 .n)⟩)
   exact st 1 [] (k_end ⟨false, I, H, ft, hs.pk (.c d0 .n)⟩)
  clear H
  rintro ρ h ⟨x30, I, H, hf, hs⟩
  refine k_fits _ hf ?_ rfl
  subst e38
  try dsimp only at H
  cases x30
  ·rw [cond_false] at H
   refine st 2 [false] (k_out rfl ?_)
   obtain rfl := si H
   exact xE ⟨I, rfl, trivial, hs.pk (.c d0 .n)⟩
  rw [cond_true] at H
  obtain ⟨c32, H⟩ := guard_pos H
  obtain ⟨c33, H⟩ := guard_pos H
  refine st 15 [true] (k_val (elemPtr a21 (x25.toNat * 6)) (pI (e := 89) (ik := .i64) (hs.sR d0) c32 c33) ?_)
  obtain ⟨y35, g34, q36⟩ := (hs.sR d0).toSl.seg c32 c33
  obtain rfl := t_api_Cell.open_ q36
  refine k_op (lG g34 ?_)
  obtain ⟨hk, bk⟩ := hs.call tk0 .n
  refine k_call H (fun _ m => field_Formatted_1.calls m hk) ?_
  rintro t37 _ h H ⟨I, _, ⟨rfl, rfl⟩, hk⟩
  replace hs := bk hk ct0 rfl
  cases t37
  ·rw [cond_false] at H
   exact st 8 [false] (k_endL ⟨k, Nat.lt_succ_self _, (w64 (x25 + 1)), I, H, ft, hs.pk (.c d0 .n)⟩)
  rw [cond_true] at H
  refine st 7 [true] (k_retQ (krL ?_))
  obtain rfl := si H
  obtain rfl := Option.some.inj HR27
  exact ⟨_, by kernel_rfl, I, _, ⟨rfl, rfl⟩, hs.pk .n⟩
def slices_ContainsFunc_api_Cell__field_Formatted_1.m (K : Nat) (x0 : (List api_Cell)) : Option Bool :=
  ((slices_IndexFunc_api_Cell__field_Formatted_1.m K x0).bind fun t25 => (some (decide (t25 ≥ 0))))
theorem slices_ContainsFunc_api_Cell__field_Formatted_1.calls {B I : Gh} {h : Heap} {K : Nat} {x0 : (List api_Cell)} {a21 : Option Addr} {p22 : Nat} {n23 : Nat} {r : Bool} (H : slices_ContainsFunc_api_Cell__field_Formatted_1.m K x0 = some r)  :
    Fc Tryz.prog 294 #[.slice a21 n23 p22, .func (.func 295) #[] #[]] [rR t_api_Cell .b a21 p22 n23 x0] B I h (fun v L => v = .bool r ∧ L = []) := by
 refine fc_of fun E hs => ?_
 unfold slices_ContainsFunc_api_Cell__field_Formatted_1.m at H
 cases hs.nR d0
 refine fn_of (rs := [.tmp 4]) (N := 9) Tryz.func294 rfl rfl rfl rfl ?_
 obtain ⟨hk, bk⟩ := hs.call tk0 (.c (qB d0) .n)
 refine st 8 [] (k_call H (fun _ m => slices_IndexFunc_api_Cell__field_Formatted_1.calls m hk) ?_)
 rintro t25 _ h H ⟨I, _, ⟨rfl, rfl⟩, hk⟩
 replace hs := bk hk ct0 rfl
 obtain rfl := si H
 exact st 3 [] (k_retQ ⟨_, by kernel_rfl, I, _, ⟨rfl, rfl⟩, hs.pk .n⟩)
def field_Formatted.m (K : Nat) (x0 : api_Screen) : Option Bool :=
  ((slices_ContainsFunc_api_Cell__field_Formatted_1.m K x0.Cells).bind fun t26 => (some t26))
theorem field_Formatted.calls {B I : Gh} {h : Heap} {K : Nat} {x0 : api_Screen} {a21 : Option Addr} {p22 : Nat} {n23 : Nat} {r : Bool} (H : field_Formatted.m K x0 = some r)  :
    Fc Tryz.prog 268 #[.agg #[iv x0.Rows, iv x0.Cols, .slice a21 n23 p22, iv x0.Cursor, .bool x0.Locked, .bool x0.Insert]] [rR t_api_Cell .b a21 p22 n23 x0.Cells] B I h (fun v L => v = .bool r ∧ L = []) := by
 refine fc_of fun E hs => ?_
 unfold field_Formatted.m at H
 cases hs.nR d0
 refine fn_of (rs := [.tmp 2]) (N := 6) Tryz.func268 rfl rfl rfl rfl ?_
 refine st 2 [] (k_op (nB hs [iv x0.Rows, iv x0.Cols, .slice a21 x0.Cells.length p22, iv x0.Cursor, .bool x0.Locked, .bool x0.Insert] ?_))
 intro b25 h hs
 refine st 5 [] (k_op (lB (hs.bl d0) 2 rfl ?_))
 obtain ⟨hk, bk⟩ := hs.call tk0 (.c (qB d1) .n)
 refine k_call H (fun _ m => slices_ContainsFunc_api_Cell__field_Formatted_1.calls m hk) ?_
 rintro t26 _ h H ⟨I, _, ⟨rfl, rfl⟩, hk⟩
 replace hs := bk hk ct0 rfl
 obtain rfl := si H
 exact st 2 [] (k_retQ ⟨_, by kernel_rfl, I, _, ⟨rfl, rfl⟩, hs.pk .n⟩)
def read_letters.l1.m (K : Nat) (x0 : api_Screen) (x1 : (List Int)) : Nat → (List Int) → Int → Option ((List Int))
  | 0, _, _ => none
  | k + 1, x30, x35 => (letJ (α := Bool → Option ((List Int))) (fun (x45 : Bool) => (bif x45 then (if 0 ≤ x35 then (if x35 < (x1.length : Int) then (if 0 ≤ (at_ x1 x35) then (if (at_ x1 x35) < (x0.Cells.length : Int) then (bif (at_ x0.Cells (at_ x1 x35)).Field then (read_letters.l1.m K x0 x1 k x30 (w64 (x35 + 1))) else (if (at_ x0.Cells (at_ x1 x35)).Char = 0 then (read_letters.l1.m K x0 x1 k x30 (w64 (x35 + 1))) else ((app x30 [(at_ x0.Cells (at_ x1 x35)).Char]).bind fun l59 => (read_letters.l1.m K x0 x1 k l59 (w64 (x35 + 1)))))) else none) else none) else none) else none) else (some (x30)))) fun (j46 : Bool → Option ((List Int))) => (if x35 < (x1.length : Int) then (j46 true) else (j46 false)))
def read_letters.m (K : Nat) (x0 : api_Screen) (x1 : (List Int)) : Option (List Int) :=
  ((read_letters.l1.m K x0 x1 K [] 0).bind fun x37 => (some x37))
theorem read_letters.calls {B I : Gh} {h : Heap} {K : Nat} {x0 : api_Screen} {x1 : (List Int)} {a21 : Option Addr} {p22 : Nat} {n23 : Nat} {a25 : Option Addr} {p26 : Nat} {n27 : Nat} {r : (List Int)} (H : read_letters.m K x0 x1 = some r)  :
    Fc Tryz.prog 269 #[.agg #[iv x0.Rows, iv x0.Cols, .slice a21 n23 p22, iv x0.Cursor, .bool x0.Locked, .bool x0.Insert], .slice a25 n27 p26] [rR t_api_Cell .b a21 p22 n23 x0.Cells, rR (tInt .i64) .b a25 p26 n27 x1] B I h (fun v L => ∃ a65 p66 n67, v = .slice a65 n67 p66 ∧ L = [rO (tInt .u8) .i a65 p66 n67 r]) := by
 refine fc_of fun E hs => ?_
 unfold read_letters.m at H
 cases hs.nR d0
 cases hs.nR d1
 refine fn_of (rs := [.tmp 4]) (N := 35) Tryz.func269 rfl rfl rfl rfl ?_
 refine st 2 [] (k_op (nB hs [iv x0.Rows, iv x0.Cols, .slice a21 x0.Cells.length p22, iv x0.Cursor, .bool x0.Locked, .bool x0.Insert] ?_))
 intro b29 h hs
 refine st 14 [] ?_
 obtain ⟨s36, m43, HR42⟩ := bind_some H
 refine k_loopT hs tl0 0 (fun T k' ρ h => ∃ (x30 : List Int) (x35 : Int), ∃ a31 p32 n33 I, read_letters.l1.m K x0 x1 k' x30 x35 = some s36 ∧ Fits [(2, pv b29), (5, .slice a31 n33 p32), (9, .slice a25 x1.length p26), (10, iv (x1.length : Int)), (11, iv x35)] ρ ∧ St E (rO (tInt .u8) .i a31 p32 n33 x30 :: T) I h) (fun T ρ h => ∃ (x37 : List Int), ∃ a38 p39 n40 I, x37 = s36 ∧ Fits [(5, .slice a38 n40 p39)] ρ ∧ St E (rO (tInt .u8) .i a38 p39 n40 x37 :: T) I h) K ⟨[], 0, none, 0, 0, I, m43, ft, hs.pk (.f imON pk0)⟩ ?_ rfl ?_
 rotate_left
 ·rintro ρ h ⟨x37, a38, p39, n40, I, rfl, hf, hs⟩
  have H := HR42
  try dsimp only at H
  refine k_fits _ hf ?_ rfl
  cases hs.nO d0
  obtain rfl := si H
  exact st 5 [] (k_retQ ⟨_, by kernel_rfl, I, _, ⟨a38, p39, x37.length, rfl, rfl⟩, hs.pk (.c d0 .n)⟩)
 clear HR42 m43 H
 rintro k' ρ h ⟨x30, x35, a31, p32, n33, I, H, hf, hs⟩
 cases k' with
 | zero => cases H
 | succ k =>
  rw [read_letters.l1.m] at H
  refine k_fits _ hf ?_ rfl
  cases hs.nO d0
  refine st 1 [] ?_
  obtain ⟨j46, e64, H⟩ := letJ_some H
  refine k_joinT (fun T ρ h => ∃ (x45 : Bool), ∃ I, j46 x45 = some s36 ∧ Fits [(2, pv b29), (5, .slice a31 x30.length p32), (9, .slice a25 x1.length p26), (10, iv (x1.length : Int)), (11, iv x35), (12, .bool x45)] ρ ∧ St E T I h) hs tl0 ?_ ?_
  ·refine st 1 [] (k_ite H (fun c44 H => ?_) (fun c44 H => ?_))
   ·exact st 1 [] (k_end ⟨true, I, H, ft, hs⟩)
   exact st 1 [] (k_end ⟨false, I, H, ft, hs⟩)
  clear H
  rintro ρ h ⟨x45, I, H, hf, hs⟩
  refine k_fits _ hf ?_ rfl
  subst e64
  try dsimp only at H
  cases x45
  ·rw [cond_false] at H
   refine st 2 [false] (k_out rfl ?_)
   obtain rfl := si H
   exact xE ⟨x30, a31, p32, x30.length, I, rfl, ft, hs.pk (.c d0 pk0)⟩
  rw [cond_true] at H
  obtain ⟨c47, H⟩ := guard_pos H
  obtain ⟨c48, H⟩ := guard_pos H
  refine st 7 [true] (k_val (elemPtr a25 (x35.toNat * 1)) (pI (e := 3) (ik := .i64) (hs.sR d3) c47 c48) ?_)
  refine k_op (lC ((hs.sR d3).cell1 c47 c48) ?_)
  refine st 5 [] (k_op (lB (hs.bl d1) 2 rfl ?_))
  obtain ⟨c49, H⟩ := guard_pos H
  obtain ⟨c50, H⟩ := guard_pos H
  refine st 1 [] (k_val (elemPtr a21 ((at_ x1 x35).toNat * 6)) (pI (e := 89) (ik := .i64) (hs.sR d2) c49 c50) ?_)
  obtain ⟨y52, g51, q53⟩ := (hs.sR d2).toSl.seg c49 c50
  obtain rfl := t_api_Cell.open_ q53
  refine k_op (lG g51 ?_)
  refine k_op (nA hs [.bool false, .bool false, .bool false, iv 0, .bool false, .int .u8 0] (.agg #[.bool false, .bool false, .bool false, iv 0, .bool false, .int .u8 0]) ?_)
  intro b54 h hs
  refine k_op (sN0 hs [.bool ((at_ x0.Cells (at_ x1 x35)).Field), .bool (((at_ x0.Cells (at_ x1 x35)).Attr).Protected), .bool (((at_ x0.Cells (at_ x1 x35)).Attr).Numeric), iv (((at_ x0.Cells (at_ x1 x35)).Attr).Show), .bool (((at_ x0.Cells (at_ x1 x35)).Attr).Modified), .int .u8 ((at_ x0.Cells (at_ x1 x35)).Char)] (ones_of rfl) ?_)
  intro h hs
  refine st 4 [] (k_op (lB (hs.bl d0) 0 rfl ?_))
  refine k_spl H (fun c55 H => ?_) (fun c55 H => ?_)
  ·exact st 14 [false] (k_endL ⟨k, Nat.lt_succ_self _, x30, (w64 (x35 + 1)), a31, p32, x30.length, I, H, ft, hs.pk (.c d1 pk1)⟩)
  refine st 3 [] (k_op (lB (hs.bl d0) 5 rfl ?_))
  refine k_iteN H (fun c56 H => ?_) (fun c56 H => ?_)
  ·exact st 9 [false] (k_endL ⟨k, Nat.lt_succ_self _, x30, (w64 (x35 + 1)), a31, p32, x30.length, I, H, ft, hs.pk (.c d1 pk1)⟩)
  refine st 6 [true] (k_op (lB (hs.bl d0) 5 rfl ?_))
  refine k_op (nS (e := 5) hs .i (tInt .u8) ([(at_ x0.Cells (at_ x1 x35)).Char] : List Int) [.int .u8 ((at_ x0.Cells (at_ x1 x35)).Char)] 1 (.int .u8 0) (Reps.int (I := (Cl.G .i E.B I)) (k := .u8) (l := [(at_ x0.Cells (at_ x1 x35)).Char])) ?_)
  intro b57 h hs
  replace hs := (hs.f d2)
  obtain ⟨l59, m60, H⟩ := bind_some H
  refine k_op (aO (e := 5) (bytes := 1) hs (hs.sO d1) m60 ?_)
  intro a61 p62 h hs
  exact st 7 [] (k_endL ⟨k, Nat.lt_succ_self _, l59, (w64 (x35 + 1)), a61, p62, l59.length, I, H, ft, hs.pk (.c d0 pk2)⟩)
def field_Begins.l1.m (K : Nat) (x0 : api_Screen) : Nat → (List Int) → Int → Option ((List Int))
  | 0, _, _ => none
  | k + 1, x26, x31 => (letJ (α := Bool → Option ((List Int))) (fun (x41 : Bool) => (bif x41 then (if 0 ≤ x31 then (if x31 < (x0.Cells.length : Int) then (bif (at_ x0.Cells x31).Field then ((app x26 [x31]).bind fun l52 => (field_Begins.l1.m K x0 k l52 (w64 (x31 + 1)))) else (field_Begins.l1.m K x0 k x26 (w64 (x31 + 1)))) else none) else none) else (some (x26)))) fun (j42 : Bool → Option ((List Int))) => (if x31 < (x0.Cells.length : Int) then (j42 true) else (j42 false)))
def field_Begins.m (K : Nat) (x0 : api_Screen) : Option (List Int) :=
  ((field_Begins.l1.m K x0 K [] 0).bind fun x33 => (some x33))
theorem field_Begins.calls {B I : Gh} {h : Heap} {K : Nat} {x0 : api_Screen} {a21 : Option Addr} {p22 : Nat} {n23 : Nat} {r : (List Int)} (H : field_Begins.m K x0 = some r)  :
    Fc Tryz.prog 271 #[.agg #[iv x0.Rows, iv x0.Cols, .slice a21 n23 p22, iv x0.Cursor, .bool x0.Locked, .bool x0.Insert]] [rR t_api_Cell .b a21 p22 n23 x0.Cells] B I h (fun v L => ∃ a58 p59 n60, v = .slice a58 n60 p59 ∧ L = [rO (tInt .i64) .i a58 p59 n60 r]) := by
 refine fc_of fun E hs => ?_
 unfold field_Begins.m at H
 cases hs.nR d0
 refine fn_of (rs := [.tmp 2]) (N := 22) Tryz.func271 rfl rfl rfl rfl ?_
 refine st 2 [] (k_op (nB hs [iv x0.Rows, iv x0.Cols, .slice a21 x0.Cells.length p22, iv x0.Cursor, .bool x0.Locked, .bool x0.Insert] ?_))
 intro b25 h hs
 refine st 10 [] (k_op (lB (hs.bl d0) 2 rfl ?_))
 refine st 4 [] ?_
 obtain ⟨s32, m39, HR38⟩ := bind_some H
 refine k_loopT hs tl0 0 (fun T k' ρ h => ∃ (x26 : List Int) (x31 : Int), ∃ a27 p28 n29 I, field_Begins.l1.m K x0 k' x26 x31 = some s32 ∧ Fits [(3, .slice a27 n29 p28), (7, .slice a21 x0.Cells.length p22), (8, iv (x0.Cells.length : Int)), (9, iv x31)] ρ ∧ St E (rO (tInt .i64) .i a27 p28 n29 x26 :: T) I h) (fun T ρ h => ∃ (x33 : List Int), ∃ a34 p35 n36 I, x33 = s32 ∧ Fits [(3, .slice a34 n36 p35)] ρ ∧ St E (rO (tInt .i64) .i a34 p35 n36 x33 :: T) I h) K ⟨[], 0, none, 0, 0, I, m39, ft, hs.pk (.f imON pk0)⟩ ?_ rfl ?_
 rotate_left
 ·rintro ρ h ⟨x33, a34, p35, n36, I, rfl, hf, hs⟩
  have H := HR38
  try dsimp only at H
  refine k_fits _ hf ?_ rfl
  cases hs.nO d0
  obtain rfl := si H
  exact st 5 [] (k_retQ ⟨_, by kernel_rfl, I, _, ⟨a34, p35, x33.length, rfl, rfl⟩, hs.pk (.c d0 .n)⟩)
 clear HR38 m39 H
 rintro k' ρ h ⟨x26, x31, a27, p28, n29, I, H, hf, hs⟩
 cases k' with
 | zero => cases H
 | succ k =>
  rw [field_Begins.l1.m] at H
  refine k_fits _ hf ?_ rfl
  cases hs.nO d0
  refine st 1 [] ?_
  obtain ⟨j42, e57, H⟩ := letJ_some H
  refine k_joinT (fun T ρ h => ∃ (x41 : Bool), ∃ I, j42 x41 = some s32 ∧ Fits [(3, .slice a27 x26.length p28), (7, .slice a21 x0.Cells.length p22), (8, iv (x0.Cells.length : Int)), (9, iv x31), (10, .bool x41)] ρ ∧ St E T I h) hs tl0 ?_ ?_
  ·refine st 1 [] (k_ite H (fun c40 H => ?_) (fun c40 H => ?_))
   ·exact st 1 [] (k_end ⟨true, I, H, ft, hs⟩)
   exact st 1 [] (k_end ⟨false, I, H, ft, hs⟩)
  clear H
  rintro ρ h ⟨x41, I, H, hf, hs⟩
  refine k_fits _ hf ?_ rfl
  subst e57
  try dsimp only at H
  cases x41
  ·rw [cond_false] at H
   refine st 2 [false] (k_out rfl ?_)
   obtain rfl := si H
   exact xE ⟨x26, a27, p28, x26.length, I, rfl, ft, hs.pk (.c d0 pk0)⟩
  rw [cond_true] at H
  obtain ⟨c43, H⟩ := guard_pos H
  obtain ⟨c44, H⟩ := guard_pos H
  refine st 8 [true] (k_val (elemPtr a21 (x31.toNat * 6)) (pI (e := 89) (ik := .i64) (hs.sR d2) c43 c44) ?_)
  obtain ⟨y46, g45, q47⟩ := (hs.sR d2).toSl.seg c43 c44
  obtain rfl := t_api_Cell.open_ q47
  refine k_op (lG g45 ?_)
  refine k_op (nA hs [.bool false, .bool false, .bool false, iv 0, .bool false, .int .u8 0] (.agg #[.bool false, .bool false, .bool false, iv 0, .bool false, .int .u8 0]) ?_)
  intro b48 h hs
  refine st 1 [] (k_op (sN0 hs [.bool ((at_ x0.Cells x31).Field), .bool (((at_ x0.Cells x31).Attr).Protected), .bool (((at_ x0.Cells x31).Attr).Numeric), iv (((at_ x0.Cells x31).Attr).Show), .bool (((at_ x0.Cells x31).Attr).Modified), .int .u8 ((at_ x0.Cells x31).Char)] (ones_of rfl) ?_))
  intro h hs
  refine st 4 [] (k_op (lB (hs.bl d0) 0 rfl ?_))
  refine k_spl H (fun c49 H => ?_) (fun c49 H => ?_)
  rotate_left
  ·exact st 8 [false] (k_endL ⟨k, Nat.lt_succ_self _, x26, (w64 (x31 + 1)), a27, p28, x26.length, I, H, ft, hs.pk (.c d1 pk1)⟩)
  refine st 5 [true] (k_op (nS (e := 3) hs .i (tInt .i64) ([x31] : List Int) [iv x31] 1 (iv 0) (Reps.int (I := (Cl.G .i E.B I)) (k := .i64) (l := [x31])) ?_))
  intro b50 h hs
  replace hs := (hs.f d2)
  obtain ⟨l52, m53, H⟩ := bind_some H
  refine k_op (aO (e := 3) (bytes := 8) hs (hs.sO d1) m53 ?_)
  intro a54 p55 h hs
  exact st 7 [] (k_endL ⟨k, Nat.lt_succ_self _, l52, (w64 (x31 + 1)), a54, p55, l52.length, I, H, ft, hs.pk (.c d0 pk2)⟩)
def read_Modified.l1.m (K : Nat) (x0 : api_Screen) (t48 : (List Int)) : Nat → Int → (List api_Entry) → Option ((List api_Entry))
  | 0, _, _ => none
  | k + 1, x53, x54 => (letJ (α := Bool → Option ((List api_Entry))) (fun (x68 : Bool) => (bif x68 then (if 0 ≤ x53 then (if x53 < (t48.length : Int) then (letJ (α := Bool → Option ((List api_Entry))) (fun (x78 : Bool) => (bif x78 then ((grid_On.m x0 (at_ t48 x53) 1).bind fun t80 => ((field_Cells.m K x0 (at_ t48 x53)).bind fun t81 => ((read_letters.m K x0 t81).bind fun t86 => ((app x54 [(⟨t80, t86⟩ : api_Entry)]).bind fun l93 => (read_Modified.l1.m K x0 t48 k (w64 (x53 + 1)) l93))))) else (read_Modified.l1.m K x0 t48 k (w64 (x53 + 1)) x54))) fun (j79 : Bool → Option ((List api_Entry))) => (if 0 ≤ (at_ t48 x53) then (if (at_ t48 x53) < (x0.Cells.length : Int) then (bif ((at_ x0.Cells (at_ t48 x53)).Attr).Modified then (j79 true) else (j79 false)) else none) else none)) else none) else none) else (some (x54)))) fun (j69 : Bool → Option ((List api_Entry))) => (if x53 < (t48.length : Int) then (j69 true) else (j69 false)))
def read_Modified.m (K : Nat) (x0 : api_Screen) (x1 : Int) : Option (api_In × GoErr) :=
  (letJ (α := Bool → Option (api_In × GoErr)) (fun (x28 : Bool) => (bif x28 then (some ((⟨0, 0, []⟩ : api_In), (GoErr.no 3))) else ((attr_Bare.m x1).bind fun t30 => bif t30 then (some ((⟨x1, 0, []⟩ : api_In), GoErr.nil)) else (letJ (α := Bool → Option (api_In × GoErr)) (fun (x33 : Bool) => (bif x33 then ((field_Cells.m K x0 0).bind fun t35 => ((read_letters.m K x0 t35).bind fun t40 => (if (t40.length : Int) > 0 then (some ((⟨x1, x0.Cursor, [(⟨(-1), t40⟩ : api_Entry)]⟩ : api_In), GoErr.nil)) else (some ((⟨x1, x0.Cursor, []⟩ : api_In), GoErr.nil))))) else ((field_Begins.m K x0).bind fun t48 => ((read_Modified.l1.m K x0 t48 K 0 []).bind fun x60 => (some ((⟨x1, x0.Cursor, x60⟩ : api_In), GoErr.nil)))))) fun (j34 : Bool → Option (api_In × GoErr)) => ((field_Formatted.m K x0).bind fun t32 => bif t32 then (j34 false) else (j34 true)))))) fun (j29 : Bool → Option (api_In × GoErr)) => ((attr_Aid.m x1).bind fun t27 => bif t27 then (j29 false) else (j29 true)))
theorem read_Modified.calls {B I : Gh} {h : Heap} {K : Nat} {x0 : api_Screen} {x1 : Int} {a21 : Option Addr} {p22 : Nat} {n23 : Nat} {r : (api_In × GoErr)} (H : read_Modified.m K x0 x1 = some r)  :
    Fc Tryz.prog 232 #[.agg #[iv x0.Rows, iv x0.Cols, .slice a21 n23 p22, iv x0.Cursor, .bool x0.Locked, .bool x0.Insert], .int .u8 x1] [rR t_api_Cell .b a21 p22 n23 x0.Cells] B I h (fun v L => ∃ a102 p103 n104 v106, v = .tuple #[.agg #[.int .u8 r.1.Aid, iv r.1.Cursor, .slice a102 n104 p103], v106] ∧ L = [rO t_api_Entry .i a102 p103 n104 r.1.Fields, rE .i v106 r.2]) := by
 refine fc_of fun E hs => ?_
 unfold read_Modified.m at H
 cases hs.nR d0
 refine fn_of2 (rs := [.cell 4 29, .tmp 5]) (N := 70) Tryz.func232 rfl rfl rfl rfl ?_
 refine st 2 [] (k_op (nB hs [iv x0.Rows, iv x0.Cols, .slice a21 x0.Cells.length p22, iv x0.Cursor, .bool x0.Locked, .bool x0.Insert] ?_))
 intro b25 h hs
 refine k_op (nA hs [.int .u8 0, iv 0, .slice none 0 0] (.agg #[.int .u8 0, iv 0, .slice none 0 0]) ?_)
 intro b26 h hs
 refine st 5 [] ?_
 obtain ⟨j29, e101, H⟩ := letJ_some H
 refine k_joinT (fun T ρ h => ∃ (x28 : Bool), ∃ I, j29 x28 = some r ∧ Fits [(1, .int .u8 x1), (2, pv b25), (4, pv b26), (10, .bool x28)] ρ ∧ St E T I h) hs tl0 ?_ ?_
 ·refine st 2 [] (k_call H (fun _ m => attr_Aid.calls m) ?_)
  rintro t27 _ _ H ⟨rfl, rfl⟩
  cases t27
  ·rw [cond_false] at H
   exact st 3 [] (k_end ⟨true, I, H, ft, hs⟩)
  rw [cond_true] at H
  exact st 3 [] (k_end ⟨false, I, H, ft, hs⟩)
 clear H
 rintro ρ h ⟨x28, I, H, hf, hs⟩
 refine k_fits _ hf ?_ rfl
 subst e101
 try dsimp only at H
 cases x28
 rotate_left
 ·rw [cond_true] at H
  refine st 5 [true] (k_op (sN0 hs [.int .u8 0, iv 0, .slice none 0 0] (ones_of rfl) ?_))
  intro h hs
  obtain rfl := si H
  exact st 2 [] (k_retQ ⟨[.agg #[.int .u8 0, iv 0, .slice none 0 0], .iface 137 (iv 3)], (.cons (.agg (by kernel_rfl) (by kernel_rfl) (by kernel_rfl) ((hs.bl d0).seg_ 0 3 (Nat.le_of_ble_eq_true rfl))) (.cons (.tmp (by kernel_rfl)) .nil)), I, _, ⟨none, 0, 0, (.iface 137 (iv 3)), rfl, rfl⟩, hs.pk (.f imON (.f imEC .n))⟩)
 rw [cond_false] at H
 refine st 4 [false] (k_call H (fun _ m => attr_Bare.calls m) ?_)
 rintro t30 _ _ H ⟨rfl, rfl⟩
 cases t30
 rotate_left
 ·rw [cond_true] at H
  refine st 7 [true] (k_op (sN0 hs [.int .u8 x1, iv 0, .slice none 0 0] (ones_of rfl) ?_))
  intro h hs
  obtain rfl := si H
  exact st 2 [] (k_retQ ⟨[.agg #[.int .u8 x1, iv 0, .slice none 0 0], .nilIface], (.cons (.agg (by kernel_rfl) (by kernel_rfl) (by kernel_rfl) ((hs.bl d0).seg_ 0 3 (Nat.le_of_ble_eq_true rfl))) (.cons (.tmp (by kernel_rfl)) .nil)), I, _, ⟨none, 0, 0, (.nilIface), rfl, rfl⟩, hs.pk (.f imON (.f imEN .n))⟩)
 rw [cond_false] at H
 refine st 9 [false] (k_op (lB (hs.bl d1) 3 rfl ?_))
 refine st 1 [] (k_op (nA hs [.int .u8 0, iv 0, .slice none 0 0] (.agg #[.int .u8 0, iv 0, .slice none 0 0]) ?_))
 intro b31 h hs
 refine k_op (sN0 hs [.int .u8 x1, iv x0.Cursor, .slice none 0 0] (ones_of rfl) ?_)
 intro h hs
 refine st 3 [] ?_
 obtain ⟨j34, e100, H⟩ := letJ_some H
 refine k_joinT (fun T ρ h => ∃ (x33 : Bool), ∃ I, j34 x33 = some r ∧ Fits [(2, pv b25), (4, pv b26), (6, pv b31), (27, .bool x33)] ρ ∧ St E T I h) hs tl0 ?_ ?_
 ·refine st 1 [] (k_op (lN (hs.bl d2) 0 6 ?_))
  obtain ⟨hk, bk⟩ := hs.call tk0 (.c (qB d3) .n)
  refine k_call H (fun _ m => field_Formatted.calls m hk) ?_
  rintro t32 _ h H ⟨I, _, ⟨rfl, rfl⟩, hk⟩
  replace hs := bk hk ct0 rfl
  cases t32
  ·rw [cond_false] at H
   exact st 2 [] (k_end ⟨true, I, H, ft, hs⟩)
  rw [cond_true] at H
  exact st 2 [] (k_end ⟨false, I, H, ft, hs⟩)
 clear H
 rintro ρ h ⟨x33, I, H, hf, hs⟩
 refine k_fits _ hf ?_ rfl
 subst e100
 try dsimp only at H
 cases x33
 rotate_left
 ·rw [cond_true] at H
  refine st 3 [true] ?_
  obtain ⟨hs0, bk0⟩ := hs.call tk0 (.c (qL d2) (.c (qB d3) .n))
  have hs := hs0
  refine k_regD hs0 5 ?_
  refine aG 0 rfl hs.keep (lls hs0 d0 0 6 rfl) (nmL hs0 d0) ?_
  refine aG 1 rfl hs.keep (lls hs0 d0 0 6 rfl) (nmL hs0 d0) ?_
  obtain ⟨hk, bk⟩ := hs.call tk0 (.c (qB d1) .n)
  refine aO1 2 rfl (o_call H (fun _ m => field_Cells.calls m hk) ?_)
  rintro t35 _ h H ⟨I, _, ⟨a36, p37, n38, rfl, rfl⟩, hk⟩
  replace hs := bk hk ct1 rfl
  cases hs.nO d0
  refine ⟨hs.keep, ?_⟩
  obtain ⟨hk, bk⟩ := hs.call tk0 (.c (qB d2) (.c (qO d0) .n))
  refine aO1 3 rfl (o_call H (fun _ m => read_letters.calls m hk) ?_)
  rintro t40 _ h H ⟨I, _, ⟨a41, p42, n43, rfl, rfl⟩, hk⟩
  replace hs := bk hk ct1 rfl
  cases hs.nO d0
  refine ⟨hs.keep, ?_⟩
  refine aRun [4] 0 hs.keep ?_
  replace hs := hs.pk (.c d0 (.c d0 .n))
  replace hs := bk0 hs ct2 rfl
  refine aEnd ?_
  refine st 4 [] (k_ite H (fun c45 H => ?_) (fun c45 H => ?_))
  rotate_left
  ·refine st 5 [false] (k_op (lN (hs.bl d2) 0 3 ?_))
   refine k_op (sN0 (hs.f d3) [.int .u8 x1, iv x0.Cursor, .slice none 0 0] (ones_of rfl) ?_)
   intro h hs
   obtain rfl := si H
   exact st 2 [] (k_retQ ⟨[.agg #[.int .u8 x1, iv x0.Cursor, .slice none 0 0], .nilIface], (.cons (.agg (by kernel_rfl) (by kernel_rfl) (by kernel_rfl) ((hs.bl d0).seg_ 0 3 (Nat.le_of_ble_eq_true rfl))) (.cons (.tmp (by kernel_rfl)) .nil)), I, _, ⟨none, 0, 0, (.nilIface), rfl, rfl⟩, hs.pk (.f imON (.f imEN .n))⟩)
  obtain ⟨I, hs⟩ := hs.fO
  refine st 5 [true] (k_op (nS (e := 135) hs .i t_api_Entry ([(⟨(-1), t40⟩ : api_Entry)] : List api_Entry) [iv (-1), .slice a41 t40.length p42] 2 (.agg #[iv 0, .slice none 0 0]) (Reps.cons (T := t_api_Entry) (c := [iv (-1), .slice a41 t40.length p42]) (x := (⟨(-1), t40⟩ : api_Entry)) ⟨_, _, _, rfl, (hs.g d0)⟩ (.nil : Reps t_api_Entry (Cl.G .i E.B I) h [] [])) ?_))
  intro b46 h hs
  refine st 1 [] (k_op (sB (v := .slice (sa b46) 1 1) (hs.f d3) cw2 ?_))
  intro h hs
  refine st 3 [] (k_op (lN (hs.bl d0) 0 3 ?_))
  refine k_op (sN0 (hs.f d4) [.int .u8 x1, iv x0.Cursor, .slice (sa b46) 1 1] (ones_of rfl) ?_)
  intro h hs
  obtain rfl := si H
  exact st 2 [] (k_retQ ⟨[.agg #[.int .u8 x1, iv x0.Cursor, .slice (sa b46) 1 1], .nilIface], (.cons (.agg (by kernel_rfl) (by kernel_rfl) (by kernel_rfl) ((hs.bl d0).seg_ 0 3 (Nat.le_of_ble_eq_true rfl))) (.cons (.tmp (by kernel_rfl)) .nil)), I, _, ⟨(sa b46), 1, 1, (.nilIface), rfl, rfl⟩, hs.pk (.c d2 (.f imEN .n))⟩)
 rw [cond_false] at H
 refine st 5 [false] (k_op (lN (hs.bl d2) 0 6 ?_))
 obtain ⟨hk, bk⟩ := hs.call tk0 (.c (qB d3) .n)
 refine k_call H (fun _ m => field_Begins.calls m hk) ?_
 rintro t48 _ h H ⟨I, _, ⟨a49, p50, n51, rfl, rfl⟩, hk⟩
 replace hs := bk hk ct1 rfl
 cases hs.nO d0
 refine st 4 [] ?_
 obtain ⟨s59, m66, HR65⟩ := bind_some H
 refine k_loopT hs tl2 1 (fun T k' ρ h => ∃ (x53 : Int) (x54 : List api_Entry), ∃ a55 p56 n57 I, read_Modified.l1.m K x0 t48 k' x53 x54 = some s59 ∧ Fits [(2, pv b25), (4, pv b26), (6, pv b31), (41, .slice a49 t48.length p50), (42, iv (t48.length : Int)), (43, iv x53)] ρ ∧ St E (rO (tInt .i64) .i a49 p50 t48.length t48 :: rO t_api_Entry .i a55 p56 n57 x54 :: rB b31 [.int .u8 x1, iv x0.Cursor, .slice a55 n57 p56] 29 :: T) I h) (fun T ρ h => ∃ (x60 : List api_Entry), ∃ a61 p62 n63 I, x60 = s59 ∧ Fits [(4, pv b26), (6, pv b31)] ρ ∧ St E (rO t_api_Entry .i a61 p62 n63 x60 :: rB b31 [.int .u8 x1, iv x0.Cursor, .slice a61 n63 p62] 29 :: T) I h) K ⟨0, [], none, 0, 0, I, m66, ft, hs.pk (.c d0 (.f imON (.c d0 pk0)))⟩ ?_ rfl ?_
 rotate_left
 ·rintro ρ h ⟨x60, a61, p62, n63, I, rfl, hf, hs⟩
  have H := HR65
  try dsimp only at H
  refine k_fits _ hf ?_ rfl
  cases hs.nO d0
  refine st 2 [] (k_op (lN (hs.bl d1) 0 3 ?_))
  refine k_op (sN0 (hs.f d2) [.int .u8 x1, iv x0.Cursor, .slice a61 x60.length p62] (ones_of rfl) ?_)
  intro h hs
  obtain rfl := si H
  exact st 2 [] (k_retQ ⟨[.agg #[.int .u8 x1, iv x0.Cursor, .slice a61 x60.length p62], .nilIface], (.cons (.agg (by kernel_rfl) (by kernel_rfl) (by kernel_rfl) ((hs.bl d0).seg_ 0 3 (Nat.le_of_ble_eq_true rfl))) (.cons (.tmp (by kernel_rfl)) .nil)), I, _, ⟨a61, p62, x60.length, (.nilIface), rfl, rfl⟩, hs.pk (.c d1 (.f imEN .n))⟩)
 clear HR65 m66 H
 rintro k' ρ h ⟨x53, x54, a55, p56, n57, I, H, hf, hs⟩
 cases k' with
 | zero => cases H
 | succ k =>
  rw [read_Modified.l1.m] at H
  refine k_fits _ hf ?_ rfl
  cases hs.nO d1
  refine st 1 [] ?_
  obtain ⟨j69, e99, H⟩ := letJ_some H
  refine k_joinT (fun T ρ h => ∃ (x68 : Bool), ∃ I, j69 x68 = some s59 ∧ Fits [(2, pv b25), (4, pv b26), (6, pv b31), (41, .slice a49 t48.length p50), (42, iv (t48.length : Int)), (43, iv x53), (44, .bool x68)] ρ ∧ St E T I h) hs tl0 ?_ ?_
  ·refine st 1 [] (k_ite H (fun c67 H => ?_) (fun c67 H => ?_))
   ·exact st 1 [] (k_end ⟨true, I, H, ft, hs⟩)
   exact st 1 [] (k_end ⟨false, I, H, ft, hs⟩)
  clear H
  rintro ρ h ⟨x68, I, H, hf, hs⟩
  refine k_fits _ hf ?_ rfl
  subst e99
  try dsimp only at H
  cases x68
  ·rw [cond_false] at H
   refine st 2 [false] (k_out rfl ?_)
   obtain rfl := si H
   exact xE ⟨x54, a55, p56, x54.length, I, rfl, ft, hs.pk (.c d1 (.c d1 pk1))⟩
  rw [cond_true] at H
  obtain ⟨c70, H⟩ := guard_pos H
  obtain ⟨c71, H⟩ := guard_pos H
  refine st 7 [true] (k_val (elemPtr a49 (x53.toNat * 1)) (pI (e := 3) (ik := .i64) (hs.sO d0) c70 c71) ?_)
  refine k_op (lC ((hs.sO d0).cell1 c70 c71) ?_)
  refine st 3 [] ?_
  obtain ⟨j79, e98, H⟩ := letJ_some H
  refine k_joinT (fun T ρ h => ∃ (x78 : Bool), ∃ I, j79 x78 = some s59 ∧ Fits [(2, pv b25), (4, pv b26), (6, pv b31), (9, iv (at_ t48 x53)), (41, .slice a49 t48.length p50), (42, iv (t48.length : Int)), (43, iv x53), (53, .bool x78)] ρ ∧ St E T I h) hs tl0 ?_ ?_
  ·refine st 2 [] (k_op (lB (hs.bl d4) 2 rfl ?_))
   obtain ⟨c72, H⟩ := guard_pos H
   obtain ⟨c73, H⟩ := guard_pos H
   refine st 1 [] (k_val (elemPtr a21 ((at_ t48 x53).toNat * 6)) (pI (e := 89) (ik := .i64) (hs.sR d5) c72 c73) ?_)
   refine k_val (elemPtr a21 ((at_ t48 x53).toNat * 6 + 1)) (pF (off := 1) (hs.sR d5) c72 c73) ?_
   refine k_val (elemPtr a21 ((at_ t48 x53).toNat * 6 + 1 + 3)) (pF (off := 3) (hs.sR d5) c72 c73) ?_
   obtain ⟨y75, g74, q76⟩ := (hs.sR d5).toSl.seg c72 c73
   obtain rfl := t_api_Cell.open_ q76
   refine k_op (lC (seg_cell (f := 4) g74 rfl) ?_)
   refine k_spl H (fun c77 H => ?_) (fun c77 H => ?_)
   ·exact st 1 [] (k_end ⟨true, I, H, ft, hs⟩)
   exact st 1 [] (k_end ⟨false, I, H, ft, hs⟩)
  clear H
  rintro ρ h ⟨x78, I, H, hf, hs⟩
  refine k_fits _ hf ?_ rfl
  subst e98
  try dsimp only at H
  cases x78
  ·rw [cond_false] at H
   exact st 7 [false] (k_endL ⟨k, Nat.lt_succ_self _, (w64 (x53 + 1)), x54, a55, p56, x54.length, I, H, ft, hs.pk (.c d0 (.c d0 (.c d0 pk0)))⟩)
  rw [cond_true] at H
  refine st 1 [true] ?_
  obtain ⟨hs0, bk0⟩ := hs.call tk0 (.c (qL d2) (.c (qL d4) (.c (qB d5) .n)))
  have hs := hs0
  refine k_regD hs0 12 ?_
  refine aRun [0] 14 hs.keep ?_
  refine aL 1 rfl hs.keep (ll hs0 d0 (n := 2) rfl) (nmL hs0 d0) ?_
  refine aG 2 rfl hs.keep (lls hs0 d1 0 6 rfl) (nmL hs0 d1) ?_
  refine aRun [3] 11 hs.keep ?_
  refine aG 5 rfl hs.keep (lls hs0 d1 0 6 rfl) (nmL hs0 d1) ?_
  refine aG 6 rfl hs.keep (lls hs0 d1 0 6 rfl) (nmL hs0 d1) ?_
  refine aRun [7] 8 hs.keep ?_
  obtain ⟨hk, bk⟩ := hs.call tk0 (.c (qB d2) .n)
  refine aO1 4 rfl (o_call H (fun _ m => grid_On.calls m hk) ?_)
  rintro t80 _ h H ⟨I, _, ⟨rfl, rfl⟩, hk⟩
  replace hs := bk hk ct0 rfl
  refine ⟨hs.keep, ?_⟩
  obtain ⟨hk, bk⟩ := hs.call tk0 (.c (qB d2) .n)
  refine aO1 8 rfl (o_call H (fun _ m => field_Cells.calls m hk) ?_)
  rintro t81 _ h H ⟨I, _, ⟨a82, p83, n84, rfl, rfl⟩, hk⟩
  replace hs := bk hk ct1 rfl
  cases hs.nO d0
  refine ⟨hs.keep, ?_⟩
  obtain ⟨hk, bk⟩ := hs.call tk0 (.c (qB d3) (.c (qO d0) .n))
  refine aO1 9 rfl (o_call H (fun _ m => read_letters.calls m hk) ?_)
  rintro t86 _ h H ⟨I, _, ⟨a87, p88, n89, rfl, rfl⟩, hk⟩
  replace hs := bk hk ct1 rfl
  cases hs.nO d0
  refine ⟨hs.keep, ?_⟩
  obtain ⟨I, hs⟩ := hs.fO
  refine aRun [10] 4 hs.keep ?_
  refine aO1 11 rfl (nS (e := 135) hs .i t_api_Entry ([(⟨t80, t86⟩ : api_Entry)] : List api_Entry) [iv t80, .slice a87 t86.length p88] 2 (.agg #[iv 0, .slice none 0 0]) (Reps.cons (T := t_api_Entry) (c := [iv t80, .slice a87 t86.length p88]) (x := (⟨t80, t86⟩ : api_Entry)) ⟨_, _, _, rfl, (hs.g d0)⟩ (.nil : Reps t_api_Entry (Cl.G .i E.B I) h [] [])) ?_)
  intro b91 h hs
  refine ⟨hs.keep, ?_⟩
  replace hs := hs.pk (.c d0 (.c d0 (.c d0 .n)))
  replace hs := bk0 hs ct3 rfl
  replace hs := (hs.f d4)
  obtain ⟨l93, m94, H⟩ := bind_some H
  refine aOL 12 rfl (aO (e := 135) (bytes := 32) hs (hs.sO d1) m94 ?_)
  intro a95 p96 h hs
  refine aOL 13 rfl (owp_pure (.pointer (some ⟨b31, 2, none⟩)) (by kernel_rfl) ?_)
  refine aOL 14 rfl (sB (v := .slice a95 l93.length p96) (hs.f d5) cw2 ?_)
  intro h hs
  refine aEnd ?_
  exact st 5 [] (k_endL ⟨k, Nat.lt_succ_self _, (w64 (x53 + 1)), l93, a95, p96, l93.length, I, H, ft, hs.pk (.c d5 (.c d1 (.c d0 pk3)))⟩)
abbrev zA : api_Attr := ⟨false, false, 0, false⟩
abbrev oc (k : Int) (v : Value) (t : api_Attr) (ad : Int) : List Value := [.int .i64 k, v, .bool t.Protected, .bool t.Numeric, .int .i64 t.Show, .bool t.Modified, .int .i64 ad, .int .u8 0]
abbrev oz : Value := .agg #[.int .i64 0, .slice none 0 0, .bool false, .bool false, .int .i64 0, .bool false, .int .i64 0, .int .u8 0]
theorem oc_rep {I : Gh} {h : Heap} (k : Int) (t : api_Attr) (ad : Int) : t_api_Order.rep I h (oc k (.slice none 0 0) t ad) ⟨k, [], t, ad, 0⟩ := ⟨none, 0, 0, rfl, rd_nil _ _ _, rfl⟩
def read_Image.l1.m (K : Nat) (x0 : api_Screen) : Nat → Int → List api_Order → Option (List api_Order)
  | 0, _, _ => none
  | k + 1, i, out => (if i < (x0.Cells.length : Int) then (if 0 ≤ i then (bif (at_ x0.Cells i).Field then ((app out [(⟨2, [], (at_ x0.Cells i).Attr, 0, 0⟩ : api_Order)]).bind fun l => read_Image.l1.m K x0 k (w64 (i + 1)) l)
      else (match out.getLast? with
        | none => none
        | some o => (if o.Kind = 1 then ((app o.Text [(at_ x0.Cells i).Char]).bind fun t => read_Image.l1.m K x0 k (w64 (i + 1)) (out.dropLast ++ [(⟨1, t, zA, 0, 0⟩ : api_Order)])) else ((app out [(⟨1, [(at_ x0.Cells i).Char], zA, 0, 0⟩ : api_Order)]).bind fun l => read_Image.l1.m K x0 k (w64 (i + 1)) l)))) else none) else (some out))
def read_Image.m (K : Nat) (x0 : api_Screen) : Option (List api_Order) :=
  ((read_Image.l1.m K x0 K 0 [(⟨3, [], zA, 0, 0⟩ : api_Order)]).bind fun out => (if x0.Cursor = 0 then (app out [(⟨4, [], zA, 0, 0⟩ : api_Order)]) else ((app out [(⟨3, [], zA, x0.Cursor, 0⟩ : api_Order)]).bind fun l => app l [(⟨4, [], zA, 0, 0⟩ : api_Order)])))
abbrev scr (x0 : api_Screen) (a : Option Addr) (p : Nat) : List Value := [.int .i64 x0.Rows, .int .i64 x0.Cols, .slice a x0.Cells.length p, .int .i64 x0.Cursor, .bool x0.Locked, .bool x0.Insert]
def ImgC (E : En) (x0 : api_Screen) (a : Option Addr) (p b1 : Nat) (ao : Option Addr) (co : Nat) (raws : List (List Value)) (out : List api_Order) (I : Gh) (h : Heap) : Prop :=
  ∃ out0 o, out = out0 ++ [o] ∧ o.Kind ≠ 1 ∧ St E [rO (tRaw 8) .i ao co raws.length raws, rA t_api_Order raws out, rB b1 (scr x0 a p) 56, rR t_api_Cell .b a p x0.Cells.length x0.Cells] I h
def ImgO (E : En) (x0 : api_Screen) (a : Option Addr) (p b1 : Nat) (ao : Option Addr) (co : Nat) (raws : List (List Value)) (out : List api_Order) (I : Gh) (h : Heap) : Prop :=
  ∃ raws0 out0 ta tc t, raws = raws0 ++ [oc 1 (.slice ta (List.length t) tc) zA 0] ∧ out = out0 ++ [⟨1, t, zA, 0, 0⟩] ∧ List.length raws0 = List.length out0 ∧
    St E [rO (tRaw 8) .i ao co raws.length raws, rO (tInt .u8) .i ta tc (List.length t) t, rA t_api_Order raws0 out0, rB b1 (scr x0 a p) 56, rR t_api_Cell .b a p x0.Cells.length x0.Cells] I h
theorem img_close {E : En} {x0 : api_Screen} {a : Option Addr} {p b1 : Nat} {ao : Option Addr} {co : Nat} {raws : List (List Value)} {out : List api_Order} {I : Gh} {h : Heap} (q : ImgC E x0 a p b1 ao co raws out I h ∨ ImgO E x0 a p b1 ao co raws out I h) :
    ∃ I', St E [rO (tRaw 8) .i ao co raws.length raws, rA t_api_Order raws out, rB b1 (scr x0 a p) 56, rR t_api_Cell .b a p x0.Cells.length x0.Cells] I' h := by
  rcases q with ⟨_, _, _, _, hs⟩ | ⟨raws0, out0, ta, tc, t, rfl, rfl, _, hs⟩
  · exact ⟨I, hs⟩
  · obtain ⟨I', hs⟩ := (hs.f d1).fO
    have rd : Rd (tInt .u8) I' h ta tc t := hs.rd d0
    have hs2 := (hs.f d2).rA1 (cs := oc 1 (.slice ta (List.length t) tc) zA 0) (x := ⟨1, t, zA, 0, 0⟩) ⟨ta, tc, List.length t, rfl, rd, rfl⟩
    exact ⟨I', hs2.pk (.c d2 (.c d0 (.c d1 (.c d1 .n))))⟩
theorem img_len {E : En} {x0 : api_Screen} {a : Option Addr} {p b1 : Nat} {ao : Option Addr} {co : Nat} {raws : List (List Value)} {out : List api_Order} {I : Gh} {h : Heap} (q : ImgC E x0 a p b1 ao co raws out I h ∨ ImgO E x0 a p b1 ao co raws out I h) :
    raws.length = out.length ∧ 1 ≤ out.length := by
  rcases q with ⟨_, _, rfl, _, hs⟩ | ⟨raws0, out0, ta, tc, t, rfl, rfl, e, hs⟩
  · exact ⟨(hs.g d1).1, by simp⟩
  · simp [e]
theorem read_Image.calls {B I : Gh} {h : Heap} {K : Nat} {x0 : api_Screen} {a21 : Option Addr} {p22 : Nat} {n23 : Nat} {r : (List api_Order)} (H : read_Image.m K x0 = some r) :
    Fc Tryz.prog 233 #[.agg #[.int .i64 x0.Rows, .int .i64 x0.Cols, .slice a21 n23 p22, .int .i64 x0.Cursor, .bool x0.Locked, .bool x0.Insert]] [rR t_api_Cell .b a21 p22 n23 x0.Cells] B I h (fun v L => ∃ (a24 : Option Addr) (p25 : Nat) (n26 : Nat), v = .slice a24 n26 p25 ∧ L = [rO t_api_Order .i a24 p25 n26 r]) := by
 refine fc_of fun E hs => ?_
 unfold read_Image.m at H
 obtain rfl := hs.nR d0
 refine fn_of (args := [.agg #[.int .i64 x0.Rows, .int .i64 x0.Cols, .slice a21 x0.Cells.length p22, .int .i64 x0.Cursor, .bool x0.Locked, .bool x0.Insert]]) (rs := [.tmp 2]) (N := 68) Tryz.func233 rfl rfl rfl rfl ?_
 refine st 2 [] (k_op (nB hs (scr x0 a21 p22) ?_))
 intro b1 h hs
 refine st 5 [] (k_op (nS (e := 133) hs .i (tRaw 8) [oc 3 (.slice none 0 0) zA 0] (oc 3 (.slice none 0 0) zA 0) 8 oz (rawR _ rfl rfl) ?_))
 intro b2 h hs
 replace hs := (hs.rA0 (T := t_api_Order)).rA1 (cs := oc 3 (.slice none 0 0) zA 0) (oc_rep 3 zA 0)
 refine st 6 [] (k_op (lB (hs.bl d2) 2 rfl ?_))
 refine st 4 [] ?_
 obtain ⟨out9, m9, HR⟩ := bind_some H
 refine k_loop 0 (fun k' ρ h => ∃ (i : Int) (out : List api_Order) (raws : List (List Value)) (ao : Option Addr) (co : Nat) (I : Gh), read_Image.l1.m K x0 k' i out = some out9 ∧
     Fits [(1, .pointer (some ⟨b1, 0, none⟩)), (3, .slice ao raws.length co), (10, .slice a21 x0.Cells.length p22), (11, .int .i64 (x0.Cells.length : Int)), (12, .int .i64 i)] ρ ∧ out.length ≤ 1099511627776 ∧ (ImgC E x0 a21 p22 b1 ao co raws out I h ∨ ImgO E x0 a21 p22 b1 ao co raws out I h))
   (fun ρ h => ∃ (ao : Option Addr) (co no : Nat) (raws : List (List Value)) (I : Gh), Fits [(1, .pointer (some ⟨b1, 0, none⟩)), (3, .slice ao no co)] ρ ∧ raws.length = no ∧
     St E [rO (tRaw 8) .i ao co no raws, rA t_api_Order raws out9, rB b1 (scr x0 a21 p22) 56, rR t_api_Cell .b a21 p22 x0.Cells.length x0.Cells] I h) K
   ⟨0, _, [oc 3 (.slice none 0 0) zA 0], (some ⟨b2, 0, none⟩), 1, I, m9, ⟨by kernel_rfl, by kernel_rfl, by kernel_rfl, by kernel_rfl, by kernel_rfl, trivial⟩, by decide, .inl ⟨[], ⟨3, [], zA, 0, 0⟩, rfl, by decide, hs.pk (.c d1 (.c d0 (.c d0 (.c d0 .n))))⟩⟩ ?_ rfl ?_
 · clear HR m9 H hs
   rintro k' ρ h ⟨i, out, raws, ao, co, I, H, hf, hlim, hI⟩
   cases k' with
   | zero => cases H
   | succ k =>
   rw [read_Image.l1.m] at H
   refine k_fits _ hf ?_ rfl
   obtain ⟨hrl, ho1⟩ := img_len hI
   obtain ⟨j, hj⟩ : ∃ j, j = w64 ((raws.length : Int) - 1) := ⟨_, rfl⟩
   have hjv : j = (raws.length : Int) - 1 := by rw [hj]; exact w64_sm (by omega) (by omega)
   have hj0 : 0 ≤ j := by omega
   have hj1 : j < (raws.length : Int) := by omega
   refine st 2 [] (k_ite H (fun c1 H => ?_) (fun c1 H => ?_))
   · obtain ⟨c0, H⟩ := guard_pos H
     rcases hI with ⟨out0, o, rfl, hk, hs⟩ | ⟨raws0, out0, ta, tc, t, rfl, rfl, hl0, hs⟩
     · refine st 8 [true] (k_val (elemPtr a21 (i.toNat * 6)) (pI (e := 89) (ik := .i64) (hs.sR d3) c0 c1) ?_)
       obtain ⟨cs, g, q⟩ := (hs.sR d3).toSl.seg c0 c1
       obtain rfl := t_api_Cell.open_ q
       refine k_op (lG g ?_)
       refine k_op (nA hs [.bool false, .bool false, .bool false, .int .i64 0, .bool false, .int .u8 0] (.agg #[.bool false, .bool false, .bool false, .int .i64 0, .bool false, .int .u8 0]) ?_)
       intro b5 h hs
       refine k_op (sN hs 0 [.bool (at_ x0.Cells i).Field, .bool (at_ x0.Cells i).Attr.Protected, .bool (at_ x0.Cells i).Attr.Numeric, .int .i64 (at_ x0.Cells i).Attr.Show, .bool (at_ x0.Cells i).Attr.Modified, .int .u8 (at_ x0.Cells i).Char] [.bool (at_ x0.Cells i).Field, .bool (at_ x0.Cells i).Attr.Protected, .bool (at_ x0.Cells i).Attr.Numeric, .int .i64 (at_ x0.Cells i).Attr.Show, .bool (at_ x0.Cells i).Attr.Modified, .int .u8 (at_ x0.Cells i).Char] (ones_of rfl) ?_)
       intro h hs
       refine st 7 [] (k_val (elemPtr ao (j.toNat * 8)) (hj ▸ pI (e := 133) (ik := .i64) (hs.sO d1) (hj ▸ hj0) (hj ▸ hj1)) ?_)
       refine st 6 [] (k_op (lB (hs.bl d0) 0 rfl ?_))
       refine k_spl H (fun c2 H => ?_) (fun c2 H => ?_)
       · refine st 6 [true] (k_op (lN (hs.bl d0) 1 4 ?_))
         refine st 1 [] (k_op (nS (e := 133) hs .i (tRaw 8) [oc 2 (.slice none 0 0) (at_ x0.Cells i).Attr 0] (oc 2 (.slice none 0 0) (at_ x0.Cells i).Attr 0) 8 oz (rawR _ rfl rfl) ?_))
         intro b6 h hs
         obtain ⟨l, m, H⟩ := bind_some H
         obtain ⟨rfl, mr⟩ := app_len (l' := raws) (m' := [oc 2 (.slice none 0 0) (at_ x0.Cells i).Attr 0]) m hrl rfl
         have hl2 := (app_some m).1
         replace hs := (hs.f d2)
         refine k_op (aO (e := 133) (bytes := 72) hs (hs.sO d1) mr ?_)
         intro a7 c7 h hs
         replace hs := (hs.f d3).rA1 (cs := oc 2 (.slice none 0 0) (at_ x0.Cells i).Attr 0) (oc_rep 2 (at_ x0.Cells i).Attr 0)
         refine st 8 [] ?_
         exact k_endL ⟨k, Nat.lt_succ_self _, w64 (i + 1), _, raws ++ [oc 2 (.slice none 0 0) (at_ x0.Cells i).Attr 0], a7, c7, I, H, ⟨by kernel_rfl, by kernel_rfl, by kernel_rfl, by kernel_rfl, by kernel_rfl, trivial⟩, by rw [List.length_append]; exact hl2, .inl ⟨_, ⟨2, [], (at_ x0.Cells i).Attr, 0, 0⟩, rfl, (show (2 : Int) ≠ 1 by decide), hs.pk (.c d1 (.c d0 (.c d2 (.c d2 .n))))⟩⟩
       · rw [List.getLast?_concat] at H
         simp only at H
         rw [if_neg hk] at H
         obtain ⟨q1, q2⟩ := hs.g d2
         have hkc : (at_ raws j)[0]? = some (.int .i64 o.Kind) := by
           have e1 : j.toNat < raws.length := by omega
           have e2 : j.toNat < (out0 ++ [o]).length := by omega
           obtain ⟨_, _, _, e3, _⟩ := q2 j.toNat e1 e2
           have e4 : (out0 ++ [o])[j.toNat] = o := by
             have : j.toNat = out0.length := by rw [List.length_append] at hrl; simp at hrl; omega
             simp [this]
           rw [at_eq (hi := e1), e3, e4]; rfl
         refine st 6 [false] (k_val (elemPtr ao (j.toNat * 8)) (pN (hs.sO d1) hj0 hj1) ?_)
         refine k_val (elemPtr ao (j.toNat * 8 + 0)) (pF (off := 0) (hs.sO d1) hj0 hj1) ?_
         refine k_op (lC (seg_cell (f := 0) (raw_seg hs d1 hj0 hj1) hkc) ?_)
         refine k_val (.bool false) (pr_bool (b := (o.Kind == 1)) (by kernel_rfl) (beq_eq_false_iff_ne.2 hk)) ?_
         refine st 6 [false] (k_op (lB (hs.bl d0) 5 rfl ?_))
         refine k_op (nS (e := 5) hs .i (tInt .u8) [(at_ x0.Cells i).Char] [.int .u8 (at_ x0.Cells i).Char] 1 (.int .u8 0) (Reps.int (k := .u8) (l := [(at_ x0.Cells i).Char])) ?_)
         intro b6 h hs
         refine st 1 [] (k_op (nS (e := 133) hs .i (tRaw 8) [oc 1 (.slice (some ⟨b6, 0, none⟩) 1 1) zA 0] (oc 1 (.slice (some ⟨b6, 0, none⟩) 1 1) zA 0) 8 oz (rawR _ rfl rfl) ?_))
         intro b7 h hs
         obtain ⟨l, m, H⟩ := bind_some H
         obtain ⟨rfl, mr⟩ := app_len (l' := raws) (m' := [oc 1 (.slice (some ⟨b6, 0, none⟩) 1 1) zA 0]) m hrl rfl
         have hl2 := (app_some m).1
         replace hs := (hs.f d3)
         refine k_op (aO (e := 133) (bytes := 72) hs (hs.sO d1) mr ?_)
         intro a7 c7 h hs
         refine st 8 [] ?_
         exact k_endL ⟨k, Nat.lt_succ_self _, w64 (i + 1), _, raws ++ [oc 1 (.slice (some ⟨b6, 0, none⟩) 1 1) zA 0], a7, c7, I, H, ⟨by kernel_rfl, by kernel_rfl, by kernel_rfl, by kernel_rfl, by kernel_rfl, trivial⟩, by rw [List.length_append]; exact hl2, .inr ⟨raws, out0 ++ [o], (some ⟨b6, 0, none⟩), 1, [(at_ x0.Cells i).Char], rfl, rfl, hrl, hs.pk (.c d0 (.c d1 (.c d2 (.c d2 (.c d2 .n)))))⟩⟩
     · have hle : at_ (raws0 ++ [oc 1 (.slice ta (List.length t) tc) zA 0]) j = oc 1 (.slice ta (List.length t) tc) zA 0 := at_last (by rw [hjv, List.length_append]; simp)
       refine st 8 [true] (k_val (elemPtr a21 (i.toNat * 6)) (pI (e := 89) (ik := .i64) (hs.sR d4) c0 c1) ?_)
       obtain ⟨cs, g, q⟩ := (hs.sR d4).toSl.seg c0 c1
       obtain rfl := t_api_Cell.open_ q
       refine k_op (lG g ?_)
       refine k_op (nA hs [.bool false, .bool false, .bool false, .int .i64 0, .bool false, .int .u8 0] (.agg #[.bool false, .bool false, .bool false, .int .i64 0, .bool false, .int .u8 0]) ?_)
       intro b5 h hs
       refine k_op (sN hs 0 [.bool (at_ x0.Cells i).Field, .bool (at_ x0.Cells i).Attr.Protected, .bool (at_ x0.Cells i).Attr.Numeric, .int .i64 (at_ x0.Cells i).Attr.Show, .bool (at_ x0.Cells i).Attr.Modified, .int .u8 (at_ x0.Cells i).Char] [.bool (at_ x0.Cells i).Field, .bool (at_ x0.Cells i).Attr.Protected, .bool (at_ x0.Cells i).Attr.Numeric, .int .i64 (at_ x0.Cells i).Attr.Show, .bool (at_ x0.Cells i).Attr.Modified, .int .u8 (at_ x0.Cells i).Char] (ones_of rfl) ?_)
       intro h hs
       refine st 7 [] (k_val (elemPtr ao (j.toNat * 8)) (hj ▸ pI (e := 133) (ik := .i64) (hs.sO d1) (hj ▸ hj0) (hj ▸ hj1)) ?_)
       refine st 6 [] (k_op (lB (hs.bl d0) 0 rfl ?_))
       refine k_spl H (fun c2 H => ?_) (fun c2 H => ?_)
       · refine st 6 [true] (k_op (lN (hs.bl d0) 1 4 ?_))
         refine st 1 [] (k_op (nS (e := 133) hs .i (tRaw 8) [oc 2 (.slice none 0 0) (at_ x0.Cells i).Attr 0] (oc 2 (.slice none 0 0) (at_ x0.Cells i).Attr 0) 8 oz (rawR _ rfl rfl) ?_))
         intro b6 h hs
         obtain ⟨l, m, H⟩ := bind_some H
         obtain ⟨rfl, mr⟩ := app_len (l' := raws0 ++ [oc 1 (.slice ta (List.length t) tc) zA 0]) (m' := [oc 2 (.slice none 0 0) (at_ x0.Cells i).Attr 0]) m hrl rfl
         have hl2 := (app_some m).1
         obtain ⟨I, hs⟩ := (hs.f d3).fO
         have rd : Rd (tInt .u8) I h ta tc t := hs.rd d0
         replace hs := (hs.f d4).rA1 (cs := oc 1 (.slice ta (List.length t) tc) zA 0) (x := ⟨1, t, zA, 0, 0⟩) ⟨ta, tc, List.length t, rfl, rd, rfl⟩
         replace hs := (hs.f d4)
         refine k_op (aO (e := 133) (bytes := 72) hs (hs.sO d3) mr ?_)
         intro a7 c7 h hs
         replace hs := (hs.f d1).rA1 (cs := oc 2 (.slice none 0 0) (at_ x0.Cells i).Attr 0) (oc_rep 2 (at_ x0.Cells i).Attr 0)
         refine st 8 [] ?_
         exact k_endL ⟨k, Nat.lt_succ_self _, w64 (i + 1), _, _, a7, c7, I, H, ⟨by kernel_rfl, by kernel_rfl, by kernel_rfl, by kernel_rfl, by kernel_rfl, trivial⟩, by rw [List.length_append]; exact hl2, .inl ⟨_, ⟨2, [], (at_ x0.Cells i).Attr, 0, 0⟩, rfl, (show (2 : Int) ≠ 1 by decide), hs.pk (.c d1 (.c d0 (.c d3 (.c d3 .n))))⟩⟩
       · rw [List.getLast?_concat] at H
         simp only at H
         rw [if_pos trivial, List.dropLast_concat] at H
         have hkc : (at_ (raws0 ++ [oc 1 (.slice ta (List.length t) tc) zA 0]) j)[0]? = some (.int .i64 1) := by rw [hle]; rfl
         have htc : (at_ (raws0 ++ [oc 1 (.slice ta (List.length t) tc) zA 0]) j)[1]? = some (.slice ta (List.length t) tc) := by rw [hle]; rfl
         refine st 6 [false] (k_val (elemPtr ao (j.toNat * 8)) (pN (hs.sO d1) hj0 hj1) ?_)
         refine k_val (elemPtr ao (j.toNat * 8 + 0)) (pF (off := 0) (hs.sO d1) hj0 hj1) ?_
         refine k_op (lC (seg_cell (f := 0) (raw_seg hs d1 hj0 hj1) hkc) ?_)
         refine st 4 [true] ?_
         obtain ⟨hs0, bk0⟩ := (hs.f d2).call tk1 (.c (qO d1) (.c (qL d0) .n))
         have hs := hs0
         refine k_regD hs0 9 ?_
         refine aRun [0, 1] 10 hs.keep ?_
         refine aP 2 (elemPtr ao (j.toNat * 8)) rfl (pN (hs.sR d1) hj0 hj1) hs.keep ?_
         refine aP 3 (elemPtr ao (j.toNat * 8 + 1)) rfl (pF (off := 1) (hs.sR d1) hj0 hj1) hs.keep ?_
         refine aL 4 rfl hs.keep (seg_cell (f := 1) (raw_segR hs0 d1 hj0 hj1) htc) (nmR hs0 d1 hj0 hj1) ?_
         refine aRun [5] 6 hs.keep ?_
         refine aL 6 rfl hs.keep (ll hs0 d2 (n := 5) rfl) (nmL hs0 d2) ?_
         refine aO1 7 rfl (nS (e := 5) hs .i (tInt .u8) [(at_ x0.Cells i).Char] [.int .u8 (at_ x0.Cells i).Char] 1 (.int .u8 0) (Reps.int (k := .u8) (l := [(at_ x0.Cells i).Char])) ?_)
         intro b6 h hs
         refine ⟨hs.keep, ?_⟩
         obtain ⟨t2, m, H⟩ := bind_some H
         replace hs := (hs.f d1)
         refine aO1 8 rfl (aO (e := 5) (bytes := 1) hs (hs.sO d1) m ?_)
         intro a7 c7 h hs
         refine ⟨hs.keep, ?_⟩
         replace hs := hs.pk (.c d0 .n)
         replace hs := bk0 hs ct1 rfl
         refine aOL 9 rfl (owp_pure (elemPtr ao (j.toNat * 8)) (pN (hs.sO d2) hj0 hj1) ?_)
         refine aOL 10 rfl (owp_pure (elemPtr ao (j.toNat * 8 + 1)) (pF (off := 1) (hs.sO d2) hj0 hj1) ?_)
         have hsg := raw_seg hs d2 hj0 hj1
         rw [hle] at hsg
         refine aOL 11 rfl (sE (hs.f d2) 1 [.slice a7 t2.length c7] (oc 1 (.slice a7 t2.length c7) zA 0) hj0 hj1 hsg (ones_of rfl) ⟨rfl, rfl, ones_of rfl⟩ ?_)
         intro h hs
         rw [set_last (by rw [hjv, List.length_append]; simp)] at hs
         refine aEnd ?_
         refine st 6 [] ?_
         have hn : (raws0 ++ [oc 1 (.slice ta (List.length t) tc) zA 0]).length = (raws0 ++ [oc 1 (.slice a7 t2.length c7) zA 0]).length := by simp
         rw [hn] at hs
         exact k_endL ⟨k, Nat.lt_succ_self _, w64 (i + 1), _, raws0 ++ [oc 1 (.slice a7 t2.length c7) zA 0], ao, co, I, H, ⟨by kernel_rfl, hn ▸ by kernel_rfl, by kernel_rfl, by kernel_rfl, by kernel_rfl, trivial⟩, by rw [List.length_append] at hlim ⊢; simpa using hlim, .inr ⟨raws0, out0, a7, c7, t2, rfl, rfl, hl0, hs.pk (.c d0 (.c d0 (.c d1 (.c d1 (.c d1 .n)))))⟩⟩
   · obtain rfl := Option.some.inj H
     obtain ⟨I, hs⟩ := img_close hI
     refine st 3 [false] ?_
     refine k_out rfl ?_
     exact xE ⟨ao, co, raws.length, raws, I, ⟨by kernel_rfl, by kernel_rfl, trivial⟩, rfl, hs⟩
 · rintro ρ h ⟨ao, co, no, raws, I, hf, hno, hs⟩
   refine k_fits _ hf ?_ rfl
   have H := HR
   subst hno
   have hrl : raws.length = out9.length := (hs.g d1).1
   refine st 4 [] (k_op (lB (hs.bl d2) 3 rfl ?_))
   refine k_iteN H (fun c1 H => ?_) (fun c1 H => ?_)
   · refine st 7 [false] (k_op (nS (e := 133) hs .i (tRaw 8) [oc 4 (.slice none 0 0) zA 0] (oc 4 (.slice none 0 0) zA 0) 8 oz (rawR _ rfl rfl) ?_))
     intro b6 h hs
     obtain ⟨rfl, mr⟩ := app_len (l' := raws) (m' := [oc 4 (.slice none 0 0) zA 0]) H hrl rfl
     replace hs := (hs.f d1)
     refine k_op (aO (e := 133) (bytes := 72) hs (hs.sO d1) mr ?_)
     intro a7 c7 h hs
     replace hs := (hs.f d2).rA1 (cs := oc 4 (.slice none 0 0) zA 0) (oc_rep 4 zA 0)
     refine st 2 [] ?_
     refine k_retQ ?_
     replace hs := St.unraw (T := t_api_Order) (hs.f d1)
     exact ⟨_, by kernel_rfl, I, _, ⟨a7, c7, _, rfl, rfl⟩, hs.pk (.c d0 .n)⟩
   · refine st 5 [true] (k_op (lB (hs.bl d2) 3 rfl ?_))
     refine st 1 [] (k_op (nS (e := 133) hs .i (tRaw 8) [oc 3 (.slice none 0 0) zA x0.Cursor] (oc 3 (.slice none 0 0) zA x0.Cursor) 8 oz (rawR _ rfl rfl) ?_))
     intro b6 h hs
     obtain ⟨l, m, H⟩ := bind_some H
     obtain ⟨rfl, mr⟩ := app_len (l' := raws) (m' := [oc 3 (.slice none 0 0) zA x0.Cursor]) m hrl rfl
     replace hs := (hs.f d1)
     refine k_op (aO (e := 133) (bytes := 72) hs (hs.sO d1) mr ?_)
     intro a7 c7 h hs
     replace hs := (hs.f d2).rA1 (cs := oc 3 (.slice none 0 0) zA x0.Cursor) (oc_rep 3 zA x0.Cursor)
     have hrl2 := (hs.g d0).1
     refine st 6 [] (k_op (nS (e := 133) hs .i (tRaw 8) [oc 4 (.slice none 0 0) zA 0] (oc 4 (.slice none 0 0) zA 0) 8 oz (rawR _ rfl rfl) ?_))
     intro b8 h hs
     obtain ⟨rfl, mr2⟩ := app_len (l' := raws ++ [oc 3 (.slice none 0 0) zA x0.Cursor]) (m' := [oc 4 (.slice none 0 0) zA 0]) H hrl2 rfl
     replace hs := (hs.f d2)
     refine k_op (aO (e := 133) (bytes := 72) hs (hs.sO d1) mr2 ?_)
     intro a9 c9 h hs
     replace hs := (hs.f d2).rA1 (cs := oc 4 (.slice none 0 0) zA 0) (oc_rep 4 zA 0)
     refine st 2 [] ?_
     refine k_retQ ?_
     replace hs := St.unraw (T := t_api_Order) (hs.f d1)
     exact ⟨_, by kernel_rfl, I, _, ⟨a9, c9, _, rfl, rfl⟩, hs.pk (.c d0 .n)⟩
def stream_known.m (x0 : Int) : Option Bool :=
  (if x0 = 241 then (some true) else (if x0 = 245 then (some true) else (if x0 = 111 then (some true) else (if x0 = 242 then (some true) else (if x0 = 246 then (some true) else (some false))))))
theorem stream_known.calls {x0 : Int} {h : Heap} {r : Bool} (H : stream_known.m x0 = some r)   :
    Ret Tryz.prog 50 #[iv x0] h (fun v h' => .bool r = v ∧ h' = h) := by
 unfold stream_known.m at H
 refine fn_of (rs := [.tmp 2]) (N := 12) Tryz.func50 rfl rfl rfl rfl ?_
 refine st 19 [] (k_ite H (fun c21 H => ?_) (fun c21 H => ?_))
 ·obtain rfl := si H
  exact st 13 [true, true] (k_retQ ⟨_, by kernel_rfl, rfl, rfl⟩)
 refine st 4 [false] (k_ite H (fun c22 H => ?_) (fun c22 H => ?_))
 ·obtain rfl := si H
  exact st 11 [true] (k_retQ ⟨_, by kernel_rfl, rfl, rfl⟩)
 refine st 7 [false] (k_ite H (fun c23 H => ?_) (fun c23 H => ?_))
 ·obtain rfl := si H
  exact st 10 [true] (k_retQ ⟨_, by kernel_rfl, rfl, rfl⟩)
 refine st 7 [false] (k_ite H (fun c24 H => ?_) (fun c24 H => ?_))
 ·obtain rfl := si H
  exact st 11 [true, true] (k_retQ ⟨_, by kernel_rfl, rfl, rfl⟩)
 refine st 4 [false] (k_ite H (fun c25 H => ?_) (fun c25 H => ?_))
 ·obtain rfl := si H
  exact st 9 [true] (k_retQ ⟨_, by kernel_rfl, rfl, rfl⟩)
 obtain rfl := si H
 exact st 9 [false] (k_retQ ⟨_, by kernel_rfl, rfl, rfl⟩)
def stream_Writes.m (x0 : Int) : Option Bool :=
  (if x0 = 241 then (some true) else (some (x0 == 245)))
theorem stream_Writes.calls {x0 : Int} {h : Heap} {r : Bool} (H : stream_Writes.m x0 = some r)   :
    Ret Tryz.prog 51 #[iv x0] h (fun v h' => .bool r = v ∧ h' = h) := by
 unfold stream_Writes.m at H
 refine fn_of (rs := [.tmp 2]) (N := 9) Tryz.func51 rfl rfl rfl rfl ?_
 refine st 7 [] (k_ite H (fun c21 H => ?_) (fun c21 H => ?_))
 ·obtain rfl := si H
  exact st 6 [] (k_retQ ⟨_, by kernel_rfl, rfl, rfl⟩)
 obtain rfl := si H
 exact st 6 [] (k_retQ ⟨_, by kernel_rfl, rfl, rfl⟩)
def six_digit.m (x0 : Int) : Option Int :=
  (if x0 ≥ 97 then (some (w64 ((w64 ((w64 (x0)) - 39)) - 48))) else (some (w64 ((w64 (x0)) - 48))))
theorem six_digit.calls {x0 : Int} {h : Heap} {r : Int} (H : six_digit.m x0 = some r)   :
    Ret Tryz.prog 224 #[.int .u8 x0] h (fun v h' => iv r = v ∧ h' = h) := by
 unfold six_digit.m at H
 refine fn_of (rs := [.tmp 2]) (N := 14) Tryz.func224 rfl rfl rfl rfl ?_
 refine st 20 [] (k_ite H (fun c21 H => ?_) (fun c21 H => ?_))
 ·obtain rfl := si H
  exact st 22 [true] (k_retQ ⟨_, by kernel_rfl, rfl, rfl⟩)
 obtain rfl := si H
 exact st 17 [false] (k_retQ ⟨_, by kernel_rfl, rfl, rfl⟩)
def six_at.m (x0 : Int) : Option Int :=
  (if 0 ≤ (w64 (2 * x0)) then (if (w64 (2 * x0)) < 128 then (if 0 ≤ (w64 ((w64 (2 * x0)) + 1)) then (if (w64 ((w64 (2 * x0)) + 1)) < 128 then ((six_digit.m (bt (⟨#[52, 48, 99, 49, 99, 50, 99, 51, 99, 52, 99, 53, 99, 54, 99, 55, 99, 56, 99, 57, 52, 97, 52, 98, 52, 99, 52, 100, 52, 101, 52, 102, 53, 48, 100, 49, 100, 50, 100, 51, 100, 52, 100, 53, 100, 54, 100, 55, 100, 56, 100, 57, 53, 97, 53, 98, 53, 99, 53, 100, 53, 101, 53, 102, 54, 48, 54, 49, 101, 50, 101, 51, 101, 52, 101, 53, 101, 54, 101, 55, 101, 56, 101, 57, 54, 97, 54, 98, 54, 99, 54, 100, 54, 101, 54, 102, 102, 48, 102, 49, 102, 50, 102, 51, 102, 52, 102, 53, 102, 54, 102, 55, 102, 56, 102, 57, 55, 97, 55, 98, 55, 99, 55, 100, 55, 101, 55, 102]⟩ : ByteArray) (w64 (2 * x0)))).bind fun t25 => ((six_digit.m (bt (⟨#[52, 48, 99, 49, 99, 50, 99, 51, 99, 52, 99, 53, 99, 54, 99, 55, 99, 56, 99, 57, 52, 97, 52, 98, 52, 99, 52, 100, 52, 101, 52, 102, 53, 48, 100, 49, 100, 50, 100, 51, 100, 52, 100, 53, 100, 54, 100, 55, 100, 56, 100, 57, 53, 97, 53, 98, 53, 99, 53, 100, 53, 101, 53, 102, 54, 48, 54, 49, 101, 50, 101, 51, 101, 52, 101, 53, 101, 54, 101, 55, 101, 56, 101, 57, 54, 97, 54, 98, 54, 99, 54, 100, 54, 101, 54, 102, 102, 48, 102, 49, 102, 50, 102, 51, 102, 52, 102, 53, 102, 54, 102, 55, 102, 56, 102, 57, 55, 97, 55, 98, 55, 99, 55, 100, 55, 101, 55, 102]⟩ : ByteArray) (w64 ((w64 (2 * x0)) + 1)))).bind fun t26 => (some (IntKind.u8.wrap ((bOr .i64 (shl .i64 t25 4) t26)))))) else none) else none) else none) else none)
theorem six_at.calls {x0 : Int} {h : Heap} {r : Int} (H : six_at.m x0 = some r)   :
    Ret Tryz.prog 170 #[iv x0] h (fun v h' => .int .u8 r = v ∧ h' = h) := by
 unfold six_at.m at H
 refine fn_of (rs := [.tmp 2]) (N := 15) Tryz.func170 rfl rfl rfl rfl ?_
 refine st 5 [] (k_regP 13 ?_)
 obtain ⟨c21, H⟩ := guard_pos H
 obtain ⟨c22, H⟩ := guard_pos H
 refine aRun [0, 1] 11 Keep.refl ?_
 refine aP 2 (.int .u8 (bt (⟨#[52, 48, 99, 49, 99, 50, 99, 51, 99, 52, 99, 53, 99, 54, 99, 55, 99, 56, 99, 57, 52, 97, 52, 98, 52, 99, 52, 100, 52, 101, 52, 102, 53, 48, 100, 49, 100, 50, 100, 51, 100, 52, 100, 53, 100, 54, 100, 55, 100, 56, 100, 57, 53, 97, 53, 98, 53, 99, 53, 100, 53, 101, 53, 102, 54, 48, 54, 49, 101, 50, 101, 51, 101, 52, 101, 53, 101, 54, 101, 55, 101, 56, 101, 57, 54, 97, 54, 98, 54, 99, 54, 100, 54, 101, 54, 102, 102, 48, 102, 49, 102, 50, 102, 51, 102, 52, 102, 53, 102, 54, 102, 55, 102, 56, 102, 57, 55, 97, 55, 98, 55, 99, 55, 100, 55, 101, 55, 102]⟩ : ByteArray) (w64 (2 * x0)))) rfl (pr_indexStr (s := (⟨#[52, 48, 99, 49, 99, 50, 99, 51, 99, 52, 99, 53, 99, 54, 99, 55, 99, 56, 99, 57, 52, 97, 52, 98, 52, 99, 52, 100, 52, 101, 52, 102, 53, 48, 100, 49, 100, 50, 100, 51, 100, 52, 100, 53, 100, 54, 100, 55, 100, 56, 100, 57, 53, 97, 53, 98, 53, 99, 53, 100, 53, 101, 53, 102, 54, 48, 54, 49, 101, 50, 101, 51, 101, 52, 101, 53, 101, 54, 101, 55, 101, 56, 101, 57, 54, 97, 54, 98, 54, 99, 54, 100, 54, 101, 54, 102, 102, 48, 102, 49, 102, 50, 102, 51, 102, 52, 102, 53, 102, 54, 102, 55, 102, 56, 102, 57, 55, 97, 55, 98, 55, 99, 55, 100, 55, 101, 55, 102]⟩ : ByteArray)) (k := .i64) (i := (w64 (2 * x0))) (by kernel_rfl) (by kernel_rfl) (by kernel_rfl) c21 c22) Keep.refl ?_
 obtain ⟨c23, H⟩ := guard_pos H
 obtain ⟨c24, H⟩ := guard_pos H
 refine aRun [5, 6, 7] 7 Keep.refl ?_
 refine aP 8 (.int .u8 (bt (⟨#[52, 48, 99, 49, 99, 50, 99, 51, 99, 52, 99, 53, 99, 54, 99, 55, 99, 56, 99, 57, 52, 97, 52, 98, 52, 99, 52, 100, 52, 101, 52, 102, 53, 48, 100, 49, 100, 50, 100, 51, 100, 52, 100, 53, 100, 54, 100, 55, 100, 56, 100, 57, 53, 97, 53, 98, 53, 99, 53, 100, 53, 101, 53, 102, 54, 48, 54, 49, 101, 50, 101, 51, 101, 52, 101, 53, 101, 54, 101, 55, 101, 56, 101, 57, 54, 97, 54, 98, 54, 99, 54, 100, 54, 101, 54, 102, 102, 48, 102, 49, 102, 50, 102, 51, 102, 52, 102, 53, 102, 54, 102, 55, 102, 56, 102, 57, 55, 97, 55, 98, 55, 99, 55, 100, 55, 101, 55, 102]⟩ : ByteArray) (w64 ((w64 (2 * x0)) + 1)))) rfl (pr_indexStr (s := (⟨#[52, 48, 99, 49, 99, 50, 99, 51, 99, 52, 99, 53, 99, 54, 99, 55, 99, 56, 99, 57, 52, 97, 52, 98, 52, 99, 52, 100, 52, 101, 52, 102, 53, 48, 100, 49, 100, 50, 100, 51, 100, 52, 100, 53, 100, 54, 100, 55, 100, 56, 100, 57, 53, 97, 53, 98, 53, 99, 53, 100, 53, 101, 53, 102, 54, 48, 54, 49, 101, 50, 101, 51, 101, 52, 101, 53, 101, 54, 101, 55, 101, 56, 101, 57, 54, 97, 54, 98, 54, 99, 54, 100, 54, 101, 54, 102, 102, 48, 102, 49, 102, 50, 102, 51, 102, 52, 102, 53, 102, 54, 102, 55, 102, 56, 102, 57, 55, 97, 55, 98, 55, 99, 55, 100, 55, 101, 55, 102]⟩ : ByteArray)) (k := .i64) (i := (w64 ((w64 (2 * x0)) + 1))) (by kernel_rfl) (by kernel_rfl) (by kernel_rfl) c23 c24) Keep.refl ?_
 refine aO1 3 rfl (o_call H (fun _ m => six_digit.calls m) ?_)
 rintro t25 _ _ H ⟨rfl, rfl⟩
 refine ⟨Keep.refl, ?_⟩
 refine aRun [4] 4 Keep.refl ?_
 refine aO1 9 rfl (o_call H (fun _ m => six_digit.calls m) ?_)
 rintro t26 _ _ H ⟨rfl, rfl⟩
 refine ⟨Keep.refl, ?_⟩
 refine aRun [10, 11, 12] 0 Keep.refl ?_
 refine aEnd ?_
 obtain rfl := si H
 exact k_retQ ⟨_, by kernel_rfl, rfl, rfl⟩
def six_Put.m (x0 : Int) : Option (Int × GoErr) :=
  (if x0 < 0 then (some (0, (GoErr.no 1))) else (if x0 ≥ 64 then (some (0, (GoErr.no 1))) else ((six_at.m x0).bind fun t23 => (some (t23, GoErr.nil)))))
theorem six_Put.calls {B I : Gh} {h : Heap} {x0 : Int} {r : (Int × GoErr)} (H : six_Put.m x0 = some r)  :
    Fc Tryz.prog 108 #[iv x0] [] B I h (fun v L => ∃ v24, v = .tuple #[.int .u8 r.1, v24] ∧ L = [rE .i v24 r.2]) := by
 refine fc_of fun E hs => ?_
 unfold six_Put.m at H
 refine fn_of (rs := [.tmp 2, .tmp 3]) (N := 13) Tryz.func108 rfl rfl rfl rfl ?_
 refine st 9 [] (k_ite H (fun c21 H => ?_) (fun c21 H => ?_))
 ·obtain rfl := si H
  exact st 12 [true] (k_retQ ⟨_, by kernel_rfl, I, _, ⟨(.iface 137 (iv 1)), rfl, rfl⟩, hs.pk (.f imEC .n)⟩)
 refine st 2 [] (k_ite H (fun c22 H => ?_) (fun c22 H => ?_))
 ·obtain rfl := si H
  exact st 9 [true] (k_retQ ⟨_, by kernel_rfl, I, _, ⟨(.iface 137 (iv 1)), rfl, rfl⟩, hs.pk (.f imEC .n)⟩)
 refine st 7 [false] (k_call H (fun _ m => six_at.calls m) ?_)
 rintro t23 _ _ H ⟨rfl, rfl⟩
 obtain rfl := si H
 exact st 3 [] (k_retQ ⟨_, by kernel_rfl, I, _, ⟨(.nilIface), rfl, rfl⟩, hs.pk (.f imEN .n)⟩)
def attr_sum.l1.m (K : Nat) (x0 : (List Anon_is_n)) : Nat → Int → Int → Option (Int)
  | 0, _, _ => none
  | k + 1, x25, x26 => (letJ (α := Bool → Option (Int)) (fun (x32 : Bool) => (bif x32 then (if 0 ≤ x26 then (if x26 < (x0.length : Int) then (bif (at_ x0 x26).is' then (attr_sum.l1.m K x0 k (w64 (x25 + ((at_ x0 x26).n'))) (w64 (x26 + 1))) else (attr_sum.l1.m K x0 k x25 (w64 (x26 + 1)))) else none) else none) else (some (x25)))) fun (j33 : Bool → Option (Int)) => (if x26 < (x0.length : Int) then (j33 true) else (j33 false)))
def attr_sum.m (K : Nat) (x0 : (List Anon_is_n)) : Option Int :=
  ((attr_sum.l1.m K x0 K 0 0).bind fun x28 => (some x28))
theorem attr_sum.calls {B I : Gh} {h : Heap} {K : Nat} {x0 : (List Anon_is_n)} {a21 : Option Addr} {p22 : Nat} {n23 : Nat} {r : Int} (H : attr_sum.m K x0 = some r)  :
    Fc Tryz.prog 109 #[.slice a21 n23 p22] [rR t_Anon_is_n .b a21 p22 n23 x0] B I h (fun v L => v = iv r ∧ L = []) := by
 refine fc_of fun E hs => ?_
 unfold attr_sum.m at H
 cases hs.nR d0
 refine fn_of (rs := [.tmp 2]) (N := 20) Tryz.func109 rfl rfl rfl rfl ?_
 refine st 16 [] ?_
 obtain ⟨s27, m30, HR29⟩ := bind_some H
 refine k_loop 0 (fun k' ρ h => ∃ (x25 : Int) (x26 : Int), ∃ I, attr_sum.l1.m K x0 k' x25 x26 = some s27 ∧ Fits [(3, iv x25), (6, .slice a21 x0.length p22), (7, iv (x0.length : Int)), (8, iv x26)] ρ ∧ St E [rR t_Anon_is_n .b a21 p22 x0.length x0] I h) (fun ρ h => ∃ (x28 : Int), ∃ I, x28 = s27 ∧ Fits [(3, iv x28)] ρ ∧ St E [rR t_Anon_is_n .b a21 p22 x0.length x0] I h) K ⟨0, 0, I, m30, ft, hs.pk (.c d0 .n)⟩ ?_ rfl ?_
 rotate_left
 ·rintro ρ h ⟨x28, I, rfl, hf, hs⟩
  have H := HR29
  try dsimp only at H
  refine k_fits _ hf ?_ rfl
  obtain rfl := si H
  exact st 5 [] (k_retQ ⟨_, by kernel_rfl, I, _, ⟨rfl, rfl⟩, hs.pk .n⟩)
 clear HR29 m30 H
 rintro k' ρ h ⟨x25, x26, I, H, hf, hs⟩
 cases k' with
 | zero => cases H
 | succ k =>
  rw [attr_sum.l1.m] at H
  refine k_fits _ hf ?_ rfl
  refine st 1 [] ?_
  obtain ⟨j33, e41, H⟩ := letJ_some H
  refine k_join (fun ρ h => ∃ (x32 : Bool), ∃ I, j33 x32 = some s27 ∧ Fits [(3, iv x25), (6, .slice a21 x0.length p22), (7, iv (x0.length : Int)), (8, iv x26), (9, .bool x32)] ρ ∧ St E [rR t_Anon_is_n .b a21 p22 x0.length x0] I h) ?_ ?_
  ·refine st 1 [] (k_ite H (fun c31 H => ?_) (fun c31 H => ?_))
   ·exact st 1 [] (k_end ⟨true, I, H, ft, hs.pk (.c d0 .n)⟩)
   exact st 1 [] (k_end ⟨false, I, H, ft, hs.pk (.c d0 .n)⟩)
  clear H
  rintro ρ h ⟨x32, I, H, hf, hs⟩
  refine k_fits _ hf ?_ rfl
  subst e41
  try dsimp only at H
  cases x32
  ·rw [cond_false] at H
   refine st 2 [false] (k_out rfl ?_)
   obtain rfl := si H
   exact xE ⟨x25, I, rfl, ft, hs.pk (.c d0 .n)⟩
  rw [cond_true] at H
  obtain ⟨c34, H⟩ := guard_pos H
  obtain ⟨c35, H⟩ := guard_pos H
  refine st 7 [true] (k_val (elemPtr a21 (x26.toNat * 2)) (pI (e := 200) (ik := .i64) (hs.sR d0) c34 c35) ?_)
  obtain ⟨y37, g36, q38⟩ := (hs.sR d0).toSl.seg c34 c35
  obtain rfl := t_Anon_is_n.open_ q38
  refine k_op (lG g36 ?_)
  refine k_op (nA hs [.bool false, iv 0] (.agg #[.bool false, iv 0]) ?_)
  intro b39 h hs
  refine k_op (sN0 hs [.bool ((at_ x0 x26).is'), iv ((at_ x0 x26).n')] (ones_of rfl) ?_)
  intro h hs
  refine st 4 [] (k_op (lB (hs.bl d0) 0 rfl ?_))
  refine k_spl H (fun c40 H => ?_) (fun c40 H => ?_)
  ·refine st 5 [true] (k_op (lB (hs.bl d0) 1 rfl ?_))
   exact st 8 [] (k_endL ⟨k, Nat.lt_succ_self _, (w64 (x25 + ((at_ x0 x26).n'))), (w64 (x26 + 1)), I, H, ft, hs.pk (.c d1 .n)⟩)
  exact st 8 [false] (k_endL ⟨k, Nat.lt_succ_self _, x25, (w64 (x26 + 1)), I, H, ft, hs.pk (.c d1 .n)⟩)
def attr_bit.m (x0 : Bool) (x1 : Int) : Option Anon_is_n :=
  (some (⟨x0, x1⟩ : Anon_is_n))
theorem attr_bit.calls {B I : Gh} {h : Heap} {x0 : Bool} {x1 : Int} {r : Anon_is_n} (H : attr_bit.m x0 x1 = some r)  :
    Fc Tryz.prog 110 #[.bool x0, iv x1] [] B I h (fun v L => v = .agg #[.bool r.is', iv r.n'] ∧ L = []) := by
 refine fc_of fun E hs => ?_
 unfold attr_bit.m at H
 refine fn_of2 (rs := [.cell 4 200]) (N := 8) Tryz.func110 rfl rfl rfl rfl ?_
 refine st 2 [] (k_op (nA hs [.bool false, iv 0] (.agg #[.bool false, iv 0]) ?_))
 intro b21 h hs
 refine st 6 [] (k_op (sN0 hs [.bool x0, iv x1] (ones_of rfl) ?_))
 intro h hs
 obtain rfl := si H
 exact st 1 [] (k_retQ ⟨[.agg #[.bool x0, iv x1]], (.cons (.agg (by kernel_rfl) (by kernel_rfl) (by kernel_rfl) ((hs.bl d0).seg_ 0 2 (Nat.le_of_ble_eq_true rfl))) .nil), I, _, ⟨rfl, rfl⟩, hs.pk .n⟩)
def attr_Put.m (K : Nat) (x0 : api_Attr) : Option (Int × GoErr) :=
  (if x0.Show < 0 then (some (0, (GoErr.no 1))) else (if x0.Show > 3 then (some (0, (GoErr.no 1))) else ((attr_bit.m x0.Protected 32).bind fun t24 => ((attr_bit.m x0.Numeric 16).bind fun t25 => ((attr_bit.m x0.Modified 1).bind fun t26 => ((attr_sum.m K [t24, t25, t26]).bind fun t29 => ((six_Put.m (w64 (t29 + (w64 (4 * x0.Show))))).bind fun t30 => (some (t30.1, t30.2)))))))))
theorem attr_Put.calls {B I : Gh} {h : Heap} {K : Nat} {x0 : api_Attr} {r : (Int × GoErr)} (H : attr_Put.m K x0 = some r)  :
    Fc Tryz.prog 169 #[.agg #[.bool x0.Protected, .bool x0.Numeric, iv x0.Show, .bool x0.Modified]] [] B I h (fun v L => ∃ v33, v = .tuple #[.int .u8 r.1, v33] ∧ L = [rE .i v33 r.2]) := by
 refine fc_of fun E hs => ?_
 unfold attr_Put.m at H
 refine fn_of (rs := [.tmp 2, .tmp 3]) (N := 31) Tryz.func169 rfl rfl rfl rfl ?_
 refine st 2 [] (k_op (nB hs [.bool x0.Protected, .bool x0.Numeric, iv x0.Show, .bool x0.Modified] ?_))
 intro b21 h hs
 refine st 7 [] (k_op (lB (hs.bl d0) 2 rfl ?_))
 refine k_ite H (fun c22 H => ?_) (fun c22 H => ?_)
 ·obtain rfl := si H
  exact st 13 [true] (k_retQ ⟨_, by kernel_rfl, I, _, ⟨(.iface 137 (iv 1)), rfl, rfl⟩, hs.pk (.f imEC .n)⟩)
 refine st 2 [] (k_op (lB (hs.bl d0) 2 rfl ?_))
 refine k_ite H (fun c23 H => ?_) (fun c23 H => ?_)
 ·obtain rfl := si H
  exact st 9 [true] (k_retQ ⟨_, by kernel_rfl, I, _, ⟨(.iface 137 (iv 1)), rfl, rfl⟩, hs.pk (.f imEC .n)⟩)
 refine st 5 [false] ?_
 obtain ⟨hs0, bk0⟩ := hs.call tk0 (.c (qL d0) .n)
 have hs := hs0
 refine k_regD hs0 20 ?_
 refine aRun [0] 19 hs.keep ?_
 refine aL 1 rfl hs.keep (ll hs0 d0 (n := 0) rfl) (nmL hs0 d0) ?_
 refine aRun [3] 17 hs.keep ?_
 refine aL 4 rfl hs.keep (ll hs0 d0 (n := 1) rfl) (nmL hs0 d0) ?_
 refine aRun [6] 15 hs.keep ?_
 refine aL 7 rfl hs.keep (ll hs0 d0 (n := 3) rfl) (nmL hs0 d0) ?_
 refine aRun [11] 13 hs.keep ?_
 refine aL 12 rfl hs.keep (ll hs0 d0 (n := 2) rfl) (nmL hs0 d0) ?_
 refine aRun [13] 11 hs.keep ?_
 obtain ⟨hk, bk⟩ := hs.call tk0 .n
 refine aO1 2 rfl (o_call H (fun _ m => attr_bit.calls m hk) ?_)
 rintro t24 _ h H ⟨I, _, ⟨rfl, rfl⟩, hk⟩
 replace hs := bk hk ct0 rfl
 refine ⟨hs.keep, ?_⟩
 obtain ⟨hk, bk⟩ := hs.call tk0 .n
 refine aO1 5 rfl (o_call H (fun _ m => attr_bit.calls m hk) ?_)
 rintro t25 _ h H ⟨I, _, ⟨rfl, rfl⟩, hk⟩
 replace hs := bk hk ct0 rfl
 refine ⟨hs.keep, ?_⟩
 obtain ⟨hk, bk⟩ := hs.call tk0 .n
 refine aO1 8 rfl (o_call H (fun _ m => attr_bit.calls m hk) ?_)
 rintro t26 _ h H ⟨I, _, ⟨rfl, rfl⟩, hk⟩
 replace hs := bk hk ct0 rfl
 refine ⟨hs.keep, ?_⟩
 refine aO1 9 rfl (nS (e := 200) hs .i t_Anon_is_n ([t24, t25, t26] : List Anon_is_n) [.bool t24.is', iv t24.n', .bool t25.is', iv t25.n', .bool t26.is', iv t26.n'] 2 (.agg #[.bool false, iv 0]) (Reps.cons (T := t_Anon_is_n) (c := [.bool t24.is', iv t24.n']) (x := t24) rfl (Reps.cons (T := t_Anon_is_n) (c := [.bool t25.is', iv t25.n']) (x := t25) rfl (Reps.cons (T := t_Anon_is_n) (c := [.bool t26.is', iv t26.n']) (x := t26) rfl (.nil : Reps t_Anon_is_n (Cl.G .i E.B I) h [] [])))) ?_)
 intro b27 h hs
 refine ⟨hs.keep, ?_⟩
 obtain ⟨hk, bk⟩ := hs.call tk0 (.c (qO d0) .n)
 refine aO1 10 rfl (o_call H (fun _ m => attr_sum.calls m hk) ?_)
 rintro t29 _ h H ⟨I, _, ⟨rfl, rfl⟩, hk⟩
 replace hs := bk hk ct0 rfl
 refine ⟨hs.keep, ?_⟩
 refine aRun [14] 5 hs.keep ?_
 obtain ⟨hk, bk⟩ := hs.call tk0 .n
 refine aO1 15 rfl (o_call H (fun _ m => six_Put.calls m hk) ?_)
 rintro t30 _ h H ⟨I, _, ⟨v31, rfl, rfl⟩, hk⟩
 replace hs := bk hk ct1 rfl
 refine ⟨hs.keep, ?_⟩
 refine aRun [16, 17, 18, 19] 0 hs.keep ?_
 replace hs := hs.pk (.c d0 (.c d0 .n))
 replace hs := bk0 hs ct2 rfl
 refine aEnd ?_
 obtain rfl := si H
 exact k_retQ ⟨_, by kernel_rfl, I, _, ⟨(v31), rfl, rfl⟩, hs.pk (.c d0 .n)⟩
def order_has.m (x0 : Int) : Option (Bool × Bool × Bool × Bool) :=
  (if x0 = 1 then (some (true, false, false, false)) else (if x0 = 2 then (some (false, true, false, false)) else (if x0 = 6 then (some (false, false, true, true)) else (if x0 = 3 then (some (false, false, true, false)) else (if x0 = 7 then (some (false, false, true, false)) else (some (false, false, false, false)))))))
theorem order_has.calls {x0 : Int} {h : Heap} {r : (Bool × Bool × Bool × Bool)} (H : order_has.m x0 = some r)   :
    Ret Tryz.prog 222 #[iv x0] h (fun v h' => .tuple #[.bool r.1, .bool r.2.1, .bool r.2.2.1, .bool r.2.2.2] = v ∧ h' = h) := by
 unfold order_has.m at H
 refine fn_of (rs := [.tmp 2, .tmp 3, .tmp 4, .tmp 5]) (N := 20) Tryz.func222 rfl rfl rfl rfl ?_
 refine st 25 [] (k_ite H (fun c21 H => ?_) (fun c21 H => ?_))
 ·obtain rfl := si H
  exact st 20 [true] (k_retQ ⟨_, by kernel_rfl, rfl, rfl⟩)
 refine st 7 [false] (k_ite H (fun c22 H => ?_) (fun c22 H => ?_))
 ·obtain rfl := si H
  exact st 20 [true] (k_retQ ⟨_, by kernel_rfl, rfl, rfl⟩)
 refine st 7 [false] (k_ite H (fun c23 H => ?_) (fun c23 H => ?_))
 ·obtain rfl := si H
  exact st 24 [true] (k_retQ ⟨_, by kernel_rfl, rfl, rfl⟩)
 refine st 7 [false] (k_ite H (fun c24 H => ?_) (fun c24 H => ?_))
 ·obtain rfl := si H
  exact st 22 [true, true] (k_retQ ⟨_, by kernel_rfl, rfl, rfl⟩)
 refine st 4 [false] (k_ite H (fun c25 H => ?_) (fun c25 H => ?_))
 ·obtain rfl := si H
  exact st 20 [true] (k_retQ ⟨_, by kernel_rfl, rfl, rfl⟩)
 obtain rfl := si H
 exact st 16 [false] (k_retQ ⟨_, by kernel_rfl, rfl, rfl⟩)
def order_Right_1.m (x0 : Int) : Option Bool :=
  ((attr_Char.m x0).bind fun t21 => (some (!t21)))
theorem order_Right_1.calls {x0 : Int} {h : Heap} {r : Bool} (H : order_Right_1.m x0 = some r)   :
    Ret Tryz.prog 223 #[.int .u8 x0] h (fun v h' => .bool r = v ∧ h' = h) := by
 unfold order_Right_1.m at H
 refine fn_of (rs := [.tmp 2]) (N := 6) Tryz.func223 rfl rfl rfl rfl ?_
 refine st 7 [] (k_call H (fun _ m => attr_Char.calls m) ?_)
 rintro t21 _ _ H ⟨rfl, rfl⟩
 obtain rfl := si H
 exact st 3 [] (k_retQ ⟨_, by kernel_rfl, rfl, rfl⟩)
def slices_IndexFunc_bytes__order_Right_1.l1.m (K : Nat) (x0 : (List Int)) : Nat → Int → Option (Int ⊕ (Unit))
  | 0, _ => none
  | k + 1, x26 => (letJ (α := Bool → Option (Int ⊕ (Unit))) (fun (x31 : Bool) => (bif x31 then (if 0 ≤ x26 then (if x26 < (x0.length : Int) then ((order_Right_1.m (at_ x0 x26)).bind fun t35 => bif t35 then (some (Sum.inl x26)) else (slices_IndexFunc_bytes__order_Right_1.l1.m K x0 k (w64 (x26 + 1)))) else none) else none) else (some (Sum.inr ())))) fun (j32 : Bool → Option (Int ⊕ (Unit))) => (if x26 < (x0.length : Int) then (j32 true) else (j32 false)))
def slices_IndexFunc_bytes__order_Right_1.m (K : Nat) (x0 : (List Int)) : Option Int :=
  ((slices_IndexFunc_bytes__order_Right_1.l1.m K x0 K 0).bind fun s27 => match s27 with | .inl q => (some q) | .inr _ => (some (-1)))
theorem slices_IndexFunc_bytes__order_Right_1.calls {G : Gh} {K : Nat} {x0 : (List Int)} {a21 : Option Addr} {p22 : Nat} {n23 : Nat} {h : Heap} {r : Int} (H : slices_IndexFunc_bytes__order_Right_1.m K x0 = some r)  (s25 : Sn (tInt .u8) G h a21 p22 n23 x0) :
    Ret Tryz.prog 172 #[.slice a21 n23 p22, .func (.func 223) #[] #[]] h (fun v h' => iv r = v ∧ h' = h) := by
 unfold slices_IndexFunc_bytes__order_Right_1.m at H
 obtain rfl := s25.len.symm
 refine fn_of (rs := [.tmp 4]) (N := 19) Tryz.func172 rfl rfl rfl rfl ?_
 refine st 12 [] ?_
 obtain ⟨s27, m29, HR28⟩ := bind_some H
 refine k_loop 0 (fun k' ρ h1 => ∃ (x26 : Int), slices_IndexFunc_bytes__order_Right_1.l1.m K x0 k' x26 = some s27 ∧ Fits [(0, .slice a21 x0.length p22), (1, .func (.func 223) #[] #[]), (7, iv (x0.length : Int)), (8, iv x26)] ρ ∧ h = h1) (fun ρ h1 => Sum.inr () = s27 ∧ Fits [] ρ ∧ h = h1) K ⟨0, m29, ft, rfl⟩ ?_ rfl ?_
 rotate_left
 ·rintro ρ h1 ⟨rfl, hf, rfl⟩
  have H := HR28
  try dsimp only at H
  refine k_fits _ hf ?_ rfl
  obtain rfl := si H
  exact st 4 [] (k_retQ ⟨_, by kernel_rfl, rfl, rfl⟩)
 clear m29 H
 rintro k' ρ h1 ⟨x26, H, hf, rfl⟩
 cases k' with
 | zero => cases H
 | succ k =>
  rw [slices_IndexFunc_bytes__order_Right_1.l1.m] at H
  refine k_fits _ hf ?_ rfl
  refine st 1 [] ?_
  obtain ⟨j32, e36, H⟩ := letJ_some H
  refine k_join (fun ρ h1 => ∃ (x31 : Bool), j32 x31 = some s27 ∧ Fits [(0, .slice a21 x0.length p22), (1, .func (.func 223) #[] #[]), (7, iv (x0.length : Int)), (8, iv x26), (9, .bool x31)] ρ ∧ h = h1) ?_ ?_
  ·refine st 1 [] (k_ite H (fun c30 H => ?_) (fun c30 H => ?_))
   ·exact st 1 [] (k_end ⟨true, H, ft, rfl⟩)
   exact st 1 [] (k_end ⟨false, H, ft, rfl⟩)
  clear H
  rintro ρ h1 ⟨x31, H, hf, rfl⟩
  refine k_fits _ hf ?_ rfl
  subst e36
  try dsimp only at H
  cases x31
  ·rw [cond_false] at H
   refine st 2 [false] (k_out rfl ?_)
   obtain rfl := si H
   exact xE ⟨rfl, trivial, rfl⟩
  rw [cond_true] at H
  obtain ⟨c33, H⟩ := guard_pos H
  obtain ⟨c34, H⟩ := guard_pos H
  refine st 15 [true] (k_val (elemPtr a21 (x26.toNat * 1)) (pI (e := 5) (ik := .i64) s25 c33 c34) ?_)
  refine k_op (lC (s25.cell1 c33 c34) ?_)
  refine k_call H (fun _ m => order_Right_1.calls m) ?_
  rintro t35 _ _ H ⟨rfl, rfl⟩
  cases t35
  ·rw [cond_false] at H
   exact st 8 [false] (k_endL ⟨k, Nat.lt_succ_self _, (w64 (x26 + 1)), H, ft, rfl⟩)
  rw [cond_true] at H
  refine st 7 [true] (k_retQ (krL ?_))
  obtain rfl := si H
  obtain rfl := Option.some.inj HR28
  exact ⟨_, by kernel_rfl, rfl, rfl⟩
def slices_ContainsFunc_bytes__order_Right_1.m (K : Nat) (x0 : (List Int)) : Option Bool :=
  ((slices_IndexFunc_bytes__order_Right_1.m K x0).bind fun t25 => (some (decide (t25 ≥ 0))))
theorem slices_ContainsFunc_bytes__order_Right_1.calls {B I : Gh} {h : Heap} {K : Nat} {x0 : (List Int)} {a21 : Option Addr} {p22 : Nat} {n23 : Nat} {r : Bool} (H : slices_ContainsFunc_bytes__order_Right_1.m K x0 = some r)  :
    Fc Tryz.prog 176 #[.slice a21 n23 p22, .func (.func 223) #[] #[]] [rR (tInt .u8) .b a21 p22 n23 x0] B I h (fun v L => v = .bool r ∧ L = []) := by
 refine fc_of fun E hs => ?_
 unfold slices_ContainsFunc_bytes__order_Right_1.m at H
 cases hs.nR d0
 refine fn_of (rs := [.tmp 4]) (N := 9) Tryz.func176 rfl rfl rfl rfl ?_
 refine st 8 [] (k_call H (fun _ m => slices_IndexFunc_bytes__order_Right_1.calls m (hs.sR d0)) ?_)
 rintro t25 _ _ H ⟨rfl, rfl⟩
 obtain rfl := si H
 exact st 3 [] (k_retQ ⟨_, by kernel_rfl, I, _, ⟨rfl, rfl⟩, hs.pk .n⟩)
def order_Right.m (K : Nat) (x0 : api_Order) (x1 : Int) : Option GoErr :=
  (if x0.Kind < 1 then (some (GoErr.no 5)) else (if x0.Kind > 7 then (some (GoErr.no 5)) else (letJ (α := Bool → Bool → Bool → Bool → Option GoErr) (fun (x36 : Bool) (x37 : Bool) (x38 : Bool) (x39 : Bool) => ((attr_Put.m K x0.Attr).bind fun t41 => (letJ (α := Bool → Option GoErr) (fun (x46 : Bool) => (bif x46 then (some (GoErr.no 1)) else (letJ (α := Bool → Option GoErr) (fun (x53 : Bool) => (bif x53 then (some (GoErr.no 1)) else (letJ (α := Bool → Option GoErr) (fun (x62 : Bool) => (bif x62 then (some (GoErr.no 1)) else (bif x38 then (if x0.Addr < 0 then (some (GoErr.no 4)) else (if x0.Addr ≥ x1 then (some (GoErr.no 4)) else (some GoErr.nil))) else (some GoErr.nil)))) fun (j63 : Bool → Option GoErr) => (bif x39 then ((order_Right_1.m x0.Char).bind fun t56 => bif t56 then (j63 true) else (bif x38 then (j63 false) else (if x0.Addr = 0 then (j63 false) else (j63 true)))) else (if x0.Char = 0 then (bif x38 then (j63 false) else (if x0.Addr = 0 then (j63 false) else (j63 true))) else (j63 true)))))) fun (j54 : Bool → Option GoErr) => (bif x37 then (if t41.2 = GoErr.nil then (j54 false) else (j54 true)) else (bif ((x0.Attr.Protected == false) && ((x0.Attr.Numeric == false) && ((x0.Attr.Show == 0) && ((x0.Attr.Modified == false) && true)))) then (j54 false) else (j54 true)))))) fun (j47 : Bool → Option GoErr) => (bif (x36 != (decide ((x0.Text.length : Int) > 0))) then (j47 true) else ((slices_ContainsFunc_bytes__order_Right_1.m K x0.Text).bind fun t45 => bif t45 then (j47 true) else (j47 false)))))) fun (j40 : Bool → Bool → Bool → Bool → Option GoErr) => ((order_has.m x0.Kind).bind fun t28 => (bif t28.2.1 then (bif t28.2.2.1 then (bif t28.2.2.2 then (j40 t28.1 true true true) else (j40 t28.1 true true false)) else (bif t28.2.2.2 then (j40 t28.1 true false true) else (j40 t28.1 true false false))) else (bif t28.2.2.1 then (bif t28.2.2.2 then (j40 t28.1 false true true) else (j40 t28.1 false true false)) else (bif t28.2.2.2 then (j40 t28.1 false false true) else (j40 t28.1 false false false))))))))
theorem order_Right.calls {B I : Gh} {h : Heap} {K : Nat} {x0 : api_Order} {x1 : Int} {a21 : Option Addr} {p22 : Nat} {n23 : Nat} {r : GoErr} (H : order_Right.m K x0 x1 = some r)  :
    Fc Tryz.prog 167 #[.agg #[iv x0.Kind, .slice a21 n23 p22, .bool x0.Attr.Protected, .bool x0.Attr.Numeric, iv x0.Attr.Show, .bool x0.Attr.Modified, iv x0.Addr, .int .u8 x0.Char], iv x1] [rR (tInt .u8) .b a21 p22 n23 x0.Text] B I h (fun v L => ∃ v71, v = v71 ∧ L = [rE .i v71 r]) := by
 refine fc_of fun E hs => ?_
 unfold order_Right.m at H
 cases hs.nR d0
 refine fn_of (rs := [.tmp 4]) (N := 107) Tryz.func167 rfl rfl rfl rfl ?_
 refine st 2 [] (k_op (nB hs [iv x0.Kind, .slice a21 x0.Text.length p22, .bool x0.Attr.Protected, .bool x0.Attr.Numeric, iv x0.Attr.Show, .bool x0.Attr.Modified, iv x0.Addr, .int .u8 x0.Char] ?_))
 intro b25 h hs
 refine st 6 [] (k_op (lB (hs.bl d0) 0 rfl ?_))
 refine k_ite H (fun c26 H => ?_) (fun c26 H => ?_)
 ·obtain rfl := si H
  exact st 12 [true] (k_retQ ⟨_, by kernel_rfl, I, _, ⟨(.iface 137 (iv 5)), rfl, rfl⟩, hs.pk (.f imEC .n)⟩)
 refine st 2 [] (k_op (lB (hs.bl d0) 0 rfl ?_))
 refine k_ite H (fun c27 H => ?_) (fun c27 H => ?_)
 ·obtain rfl := si H
  exact st 8 [true] (k_retQ ⟨_, by kernel_rfl, I, _, ⟨(.iface 137 (iv 5)), rfl, rfl⟩, hs.pk (.f imEC .n)⟩)
 refine st 5 [false] ?_
 obtain ⟨j40, e70, H⟩ := letJ_some H
 refine k_joinT (fun T ρ h => ∃ (x36 : Bool) (x37 : Bool) (x38 : Bool) (x39 : Bool), ∃ I, j40 x36 x37 x38 x39 = some r ∧ Fits [(1, iv x1), (2, pv b25), (5, .bool x36), (6, .bool x37), (7, .bool x38), (8, .bool x39)] ρ ∧ St E T I h) hs tl0 ?_ ?_
 ·refine st 2 [] (k_op (lB (hs.bl d0) 0 rfl ?_))
  refine k_call H (fun _ m => order_has.calls m) ?_
  rintro t28 _ _ H ⟨rfl, rfl⟩
  refine st 2 [] (k_if H (fun c29 H => ?_) (fun c29 H => ?_))
  ·refine k_if H (fun c30 H => ?_) (fun c30 H => ?_)
   ·refine k_if H (fun c31 H => ?_) (fun c31 H => ?_)
    ·exact st 5 [] (k_end ⟨t28.1, true, true, true, I, H, ft, hs⟩)
    exact st 5 [] (k_end ⟨t28.1, true, true, false, I, H, ft, hs⟩)
   refine k_if H (fun c32 H => ?_) (fun c32 H => ?_)
   ·exact st 5 [] (k_end ⟨t28.1, true, false, true, I, H, ft, hs⟩)
   exact st 5 [] (k_end ⟨t28.1, true, false, false, I, H, ft, hs⟩)
  refine k_if H (fun c33 H => ?_) (fun c33 H => ?_)
  ·refine k_if H (fun c34 H => ?_) (fun c34 H => ?_)
   ·exact st 5 [] (k_end ⟨t28.1, false, true, true, I, H, ft, hs⟩)
   exact st 5 [] (k_end ⟨t28.1, false, true, false, I, H, ft, hs⟩)
  refine k_if H (fun c35 H => ?_) (fun c35 H => ?_)
  ·exact st 5 [] (k_end ⟨t28.1, false, false, true, I, H, ft, hs⟩)
  exact st 5 [] (k_end ⟨t28.1, false, false, false, I, H, ft, hs⟩)
 clear H
 rintro ρ h ⟨x36, x37, x38, x39, I, H, hf, hs⟩
 refine k_fits _ hf ?_ rfl
 subst e70
 try dsimp only at H
 refine st 3 [] (k_op (lN (hs.bl d0) 2 4 ?_))
 obtain ⟨hk, bk⟩ := hs.call tk0 .n
 refine k_call H (fun _ m => attr_Put.calls m hk) ?_
 rintro t41 _ h H ⟨I, _, ⟨v42, rfl, rfl⟩, hk⟩
 replace hs := bk hk ct1 rfl
 refine st 13 [] ?_
 obtain ⟨j47, e69, H⟩ := letJ_some H
 refine k_joinT (fun T ρ h => ∃ (x46 : Bool), ∃ I, j47 x46 = some r ∧ Fits [(1, iv x1), (2, pv b25), (6, .bool x37), (7, .bool x38), (8, .bool x39), (10, v42), (11, .func (.func 223) #[] #[]), (35, .bool x46)] ρ ∧ St E T I h) hs tl0 ?_ ?_
 ·refine st 3 [] (k_op (lB (hs.bl d1) 1 rfl ?_))
  refine st 2 [] (k_if H (fun c44 H => ?_) (fun c44 H => ?_))
  ·exact st 8 [] (k_end ⟨true, I, H, ft, hs⟩)
  refine st 2 [] (k_op (lB (hs.bl d1) 1 rfl ?_))
  obtain ⟨hk, bk⟩ := hs.call tk0 (.c (qB d2) .n)
  refine st 1 [] (k_call H (fun _ m => slices_ContainsFunc_bytes__order_Right_1.calls m hk) ?_)
  rintro t45 _ h H ⟨I, _, ⟨rfl, rfl⟩, hk⟩
  replace hs := bk hk ct0 rfl
  cases t45
  ·rw [cond_false] at H
   exact st 3 [] (k_end ⟨false, I, H, ft, hs⟩)
  rw [cond_true] at H
  exact st 3 [] (k_end ⟨true, I, H, ft, hs⟩)
 clear H
 rintro ρ h ⟨x46, I, H, hf, hs⟩
 refine k_fits _ hf ?_ rfl
 subst e69
 try dsimp only at H
 cases x46
 rotate_left
 ·rw [cond_true] at H
  obtain rfl := si H
  exact st 6 [true] (k_retQ ⟨_, by kernel_rfl, I, _, ⟨(.iface 137 (iv 1)), rfl, rfl⟩, hs.pk (.f imEC .n)⟩)
 rw [cond_false] at H
 refine st 2 [false] ?_
 obtain ⟨j54, e68, H⟩ := letJ_some H
 refine k_joinT (fun T ρ h => ∃ (x53 : Bool), ∃ I, j54 x53 = some r ∧ Fits [(1, iv x1), (2, pv b25), (7, .bool x38), (8, .bool x39), (11, .func (.func 223) #[] #[]), (49, .bool x53)] ρ ∧ St E T I h) hs tl1 ?_ ?_
 ·refine st 1 [] (k_if H (fun c48 H => ?_) (fun c48 H => ?_))
  ·rcases (hs.er d0).cases with ⟨c49, rfl⟩ | ⟨c49, t50, u51, rfl⟩
   ·rw [if_pos c49] at H
    refine st 5 [] (k_val (.bool true) (pr_bool (by kernel_rfl) c48) ?_)
    exact st 10 [] (k_end ⟨false, I, H, ft, hs.pk pk1⟩)
   rw [if_neg c49] at H
   exact st 16 [] (k_end ⟨true, I, H, ft, hs.pk pk1⟩)
  refine st 5 [] (k_val (.bool false) (pr_bool (by kernel_rfl) c48) ?_)
  refine st 3 [] (k_op (lN (hs.bl d1) 2 4 ?_))
  rcases bool_or ((x0.Attr.Protected == false) && ((x0.Attr.Numeric == false) && ((x0.Attr.Show == 0) && ((x0.Attr.Modified == false) && true)))) with c52 | c52
  ·replace H := bif_f c52 H
   refine st 1 [] (k_op (owp_run (.bool true) (run_bool (run_neAgg (xs := #[.bool x0.Attr.Protected, .bool x0.Attr.Numeric, iv x0.Attr.Show, .bool x0.Attr.Modified]) (ys := #[.bool false, .bool false, iv 0, .bool false]) (by kernel_rfl) (by kernel_rfl) (by kernel_rfl) (eqB_run (b := ((x0.Attr.Protected == false) && ((x0.Attr.Numeric == false) && ((x0.Attr.Show == 0) && ((x0.Attr.Modified == false) && true))))) (by kernel_rfl))) (notB c52)) ?_))
   exact st 4 [] (k_end ⟨true, I, H, ft, hs.pk pk1⟩)
  replace H := bif_t c52 H
  refine st 1 [] (k_op (owp_run (.bool false) (run_bool (run_neAgg (xs := #[.bool x0.Attr.Protected, .bool x0.Attr.Numeric, iv x0.Attr.Show, .bool x0.Attr.Modified]) (ys := #[.bool false, .bool false, iv 0, .bool false]) (by kernel_rfl) (by kernel_rfl) (by kernel_rfl) (eqB_run (b := ((x0.Attr.Protected == false) && ((x0.Attr.Numeric == false) && ((x0.Attr.Show == 0) && ((x0.Attr.Modified == false) && true))))) (by kernel_rfl))) (notB c52)) ?_))
  exact st 4 [] (k_end ⟨false, I, H, ft, hs.pk pk1⟩)
 clear H
 rintro ρ h ⟨x53, I, H, hf, hs⟩
 refine k_fits _ hf ?_ rfl
 subst e68
 try dsimp only at H
 cases x53
 rotate_left
 ·rw [cond_true] at H
  obtain rfl := si H
  exact st 6 [true] (k_retQ ⟨_, by kernel_rfl, I, _, ⟨(.iface 137 (iv 1)), rfl, rfl⟩, hs.pk (.f imEC .n)⟩)
 rw [cond_false] at H
 refine st 2 [false] ?_
 obtain ⟨j63, e67, H⟩ := letJ_some H
 refine k_joinT (fun T ρ h => ∃ (x62 : Bool), ∃ I, j63 x62 = some r ∧ Fits [(1, iv x1), (2, pv b25), (7, .bool x38), (66, .bool x62)] ρ ∧ St E T I h) hs tl0 ?_ ?_
 ·refine st 1 [] (k_if H (fun c55 H => ?_) (fun c55 H => ?_))
  rotate_left
  ·refine st 7 [] (k_val (.bool false) (pr_bool (by kernel_rfl) c55) ?_)
   refine st 3 [] (k_op (lB (hs.bl d0) 7 rfl ?_))
   refine k_iteN H (fun c59 H => ?_) (fun c59 H => ?_)
   rotate_left
   ·exact st 13 [] (k_end ⟨true, I, H, ft, hs⟩)
   refine st 3 [] (k_if H (fun c60 H => ?_) (fun c60 H => ?_))
   ·exact st 9 [] (k_end ⟨false, I, H, ft, hs⟩)
   refine st 3 [] (k_op (lB (hs.bl d0) 6 rfl ?_))
   refine k_iteN H (fun c61 H => ?_) (fun c61 H => ?_)
   ·exact st 4 [] (k_end ⟨false, I, H, ft, hs⟩)
   exact st 4 [] (k_end ⟨true, I, H, ft, hs⟩)
  refine st 3 [] (k_op (lB (hs.bl d0) 7 rfl ?_))
  refine k_call H (fun _ m => order_Right_1.calls m) ?_
  rintro t56 _ _ H ⟨rfl, rfl⟩
  cases t56
  rotate_left
  ·rw [cond_true] at H
   exact st 21 [] (k_end ⟨true, I, H, ft, hs⟩)
  rw [cond_false] at H
  refine st 2 [] (k_val (.bool true) (pr_bool (by kernel_rfl) c55) ?_)
  refine st 8 [] (k_if H (fun c57 H => ?_) (fun c57 H => ?_))
  ·exact st 9 [] (k_end ⟨false, I, H, ft, hs⟩)
  refine st 3 [] (k_op (lB (hs.bl d0) 6 rfl ?_))
  refine k_iteN H (fun c58 H => ?_) (fun c58 H => ?_)
  ·exact st 4 [] (k_end ⟨false, I, H, ft, hs⟩)
  exact st 4 [] (k_end ⟨true, I, H, ft, hs⟩)
 clear H
 rintro ρ h ⟨x62, I, H, hf, hs⟩
 refine k_fits _ hf ?_ rfl
 subst e67
 try dsimp only at H
 cases x62
 rotate_left
 ·rw [cond_true] at H
  obtain rfl := si H
  exact st 6 [true] (k_retQ ⟨_, by kernel_rfl, I, _, ⟨(.iface 137 (iv 1)), rfl, rfl⟩, hs.pk (.f imEC .n)⟩)
 rw [cond_false] at H
 refine st 3 [false] (k_if H (fun c64 H => ?_) (fun c64 H => ?_))
 rotate_left
 ·obtain rfl := si H
  exact st 20 [false] (k_retQ ⟨_, by kernel_rfl, I, _, ⟨(.nilIface), rfl, rfl⟩, hs.pk (.f imEN .n)⟩)
 refine st 2 [] (k_op (lB (hs.bl d0) 6 rfl ?_))
 refine k_ite H (fun c65 H => ?_) (fun c65 H => ?_)
 ·obtain rfl := si H
  exact st 15 [true] (k_retQ ⟨_, by kernel_rfl, I, _, ⟨(.iface 137 (iv 4)), rfl, rfl⟩, hs.pk (.f imEC .n)⟩)
 refine st 2 [] (k_op (lB (hs.bl d0) 6 rfl ?_))
 refine st 1 [] (k_ite H (fun c66 H => ?_) (fun c66 H => ?_))
 ·obtain rfl := si H
  exact st 10 [true] (k_retQ ⟨_, by kernel_rfl, I, _, ⟨(.iface 137 (iv 4)), rfl, rfl⟩, hs.pk (.f imEC .n)⟩)
 obtain rfl := si H
 exact st 11 [false] (k_retQ ⟨_, by kernel_rfl, I, _, ⟨(.nilIface), rfl, rfl⟩, hs.pk (.f imEN .n)⟩)
def order_byteOf.m (x0 : Int) : Option Int :=
  (if 0 ≤ x0 then (if x0 < 8 then (some (at_ [0, 0, 29, 17, 19, 5, 60, 18] x0)) else none) else none)
theorem order_byteOf.calls {x0 : Int} {h : Heap} {r : Int} (H : order_byteOf.m x0 = some r)   :
    Ret Tryz.prog 168 #[iv x0] h (fun v h' => .int .u8 r = v ∧ h' = h) := by
 unfold order_byteOf.m at H
 refine fn_of (rs := [.tmp 2]) (N := 6) Tryz.func168 rfl rfl rfl rfl ?_
 obtain ⟨c21, H⟩ := guard_pos H
 obtain ⟨c22, H⟩ := guard_pos H
 refine st 8 [] (k_val (.int .u8 (at_ [0, 0, 29, 17, 19, 5, 60, 18] x0)) (pr_indexAgg (e := 5) (l := [0, 0, 29, 17, 19, 5, 60, 18]) (n := 8) (kk := .i64) (by kernel_rfl) rfl (by kernel_rfl) (by kernel_rfl) (by kernel_rfl) (by kernel_rfl) c21 c22) ?_)
 obtain rfl := si H
 exact st 2 [] (k_retQ ⟨_, by kernel_rfl, rfl, rfl⟩)
def addr_sized.m (x0 : Int) : Option Bool :=
  (if x0 ≥ 1 then (some (decide (x0 ≤ 16383))) else (some false))
theorem addr_sized.calls {x0 : Int} {h : Heap} {r : Bool} (H : addr_sized.m x0 = some r)   :
    Ret Tryz.prog 178 #[iv x0] h (fun v h' => .bool r = v ∧ h' = h) := by
 unfold addr_sized.m at H
 refine fn_of (rs := [.tmp 2]) (N := 9) Tryz.func178 rfl rfl rfl rfl ?_
 refine st 7 [] (k_ite H (fun c21 H => ?_) (fun c21 H => ?_))
 ·obtain rfl := si H
  exact st 6 [] (k_retQ ⟨_, by kernel_rfl, rfl, rfl⟩)
 obtain rfl := si H
 exact st 6 [] (k_retQ ⟨_, by kernel_rfl, rfl, rfl⟩)
def addr_Long.m (x0 : Int) : Option Bool :=
  (some (decide (x0 > 4096)))
theorem addr_Long.calls {x0 : Int} {h : Heap} {r : Bool} (H : addr_Long.m x0 = some r)   :
    Ret Tryz.prog 179 #[iv x0] h (fun v h' => .bool r = v ∧ h' = h) := by
 unfold addr_Long.m at H
 refine fn_of (rs := [.tmp 2]) (N := 5) Tryz.func179 rfl rfl rfl rfl ?_
 obtain rfl := si H
 exact st 10 [] (k_retQ ⟨_, by kernel_rfl, rfl, rfl⟩)
def addr_Put.l1.m (K : Nat) (x0 : Int) : Nat → Int → (List Int) → Option (((List Int) × GoErr) ⊕ ((List Int)))
  | 0, _, _ => none
  | k + 1, x33, x35 => (letJ (α := Bool → Option (((List Int) × GoErr) ⊕ ((List Int)))) (fun (x42 : Bool) => (bif x42 then (if 0 ≤ x33 then (if x33 < ([(shr .i64 x0 6), (bAnd .i64 x0 63)].length : Int) then ((six_Put.m (at_ [(shr .i64 x0 6), (bAnd .i64 x0 63)] x33)).bind fun t46 => (if t46.2 = GoErr.nil then (if x33 < 2 then (addr_Put.l1.m K x0 k (w64 (x33 + 1)) (x35.set x33.toNat t46.1)) else none) else (some (Sum.inl ((List.replicate 2 (0 : Int)), t46.2))))) else none) else none) else (some (Sum.inr x35)))) fun (j43 : Bool → Option (((List Int) × GoErr) ⊕ ((List Int)))) => (if x33 < (2 : Int) then (j43 true) else (j43 false)))
def addr_Put.m (K : Nat) (x0 : Int) (x1 : Int) : Option ((List Int) × GoErr) :=
  (letJ (α := Bool → Option ((List Int) × GoErr)) (fun (x23 : Bool) => (bif x23 then (some ((List.replicate 2 (0 : Int)), (GoErr.no 1))) else (letJ (α := Bool → Option ((List Int) × GoErr)) (fun (x27 : Bool) => (bif x27 then (some ((List.replicate 2 (0 : Int)), (GoErr.no 4))) else ((addr_Long.m x1).bind fun t29 => bif t29 then (some ([(IntKind.u8.wrap ((shr .i64 x0 8))), (IntKind.u8.wrap (x0))], GoErr.nil)) else ((addr_Put.l1.m K x0 K 0 (List.replicate 2 (0 : Int))).bind fun s36 => match s36 with | .inl q => (some q) | .inr x38 => (some (x38, GoErr.nil)))))) fun (j28 : Bool → Option ((List Int) × GoErr)) => (if x0 < 0 then (j28 true) else (if x0 ≥ x1 then (j28 true) else (j28 false)))))) fun (j24 : Bool → Option ((List Int) × GoErr)) => ((addr_sized.m x1).bind fun t22 => bif t22 then (j24 false) else (j24 true)))
theorem addr_Put.calls {B I : Gh} {h : Heap} {K : Nat} {x0 : Int} {x1 : Int} {r : ((List Int) × GoErr)} (H : addr_Put.m K x0 x1 = some r)  :
    Fc Tryz.prog 120 #[iv x0, iv x1] [] B I h (fun v L => ∃ v57, v = .tuple #[.agg (List.map (Value.int .u8) r.1).toArray, v57] ∧ L = [rE .i v57 r.2] ∧ List.length r.1 = 2) := by
 refine fc_of fun E hs => ?_
 unfold addr_Put.m at H
 refine fn_of2 (rs := [.cell 4 216, .tmp 5]) (N := 61) Tryz.func120 rfl rfl rfl rfl ?_
 refine st 2 [] (k_op (nA hs (List.map (Value.int .u8) (List.replicate 2 (0 : Int))) (.agg (List.map (Value.int .u8) (List.replicate 2 (0 : Int))).toArray) ?_))
 intro b21 h hs
 refine st 5 [] ?_
 obtain ⟨j24, e55, H⟩ := letJ_some H
 refine k_join (fun ρ h => ∃ (x23 : Bool), ∃ I, j24 x23 = some r ∧ Fits [(0, iv x0), (1, iv x1), (4, pv b21), (11, .bool x23)] ρ ∧ St E [rB b21 (List.map (Value.int .u8) (List.replicate 2 (0 : Int))) 216] I h) ?_ ?_
 ·refine st 2 [] (k_call H (fun _ m => addr_sized.calls m) ?_)
  rintro t22 _ _ H ⟨rfl, rfl⟩
  cases t22
  ·rw [cond_false] at H
   exact st 3 [] (k_end ⟨true, I, H, ft, hs.pk (.c d0 .n)⟩)
  rw [cond_true] at H
  exact st 3 [] (k_end ⟨false, I, H, ft, hs.pk (.c d0 .n)⟩)
 clear H
 rintro ρ h ⟨x23, I, H, hf, hs⟩
 refine k_fits _ hf ?_ rfl
 subst e55
 try dsimp only at H
 cases x23
 rotate_left
 ·rw [cond_true] at H
  refine st 5 [true] (k_op (sAN (l2 := (List.replicate 2 (0 : Int))) hs (List.length_replicate (n := 2) (a := (0 : Int))) (List.length_replicate (n := 2) (a := (0 : Int))) ?_))
  intro h hs
  obtain rfl := si H
  exact st 2 [] (k_retQ ⟨[.agg (List.map (Value.int .u8) (List.replicate 2 (0 : Int))).toArray, .iface 137 (iv 1)], (.cons (.agg (by kernel_rfl) (by kernel_rfl) (by kernel_rfl) ((hs.bl d0).arrSeg (List.length_replicate (n := 2) (a := (0 : Int))))) (.cons (.tmp (by kernel_rfl)) .nil)), I, _, ⟨(.iface 137 (iv 1)), rfl, rfl, (List.length_replicate (n := 2) (a := (0 : Int)))⟩, hs.pk (.f imEC .n)⟩)
 rw [cond_false] at H
 refine st 2 [false] ?_
 obtain ⟨j28, e54, H⟩ := letJ_some H
 refine k_join (fun ρ h => ∃ (x27 : Bool), ∃ I, j28 x27 = some r ∧ Fits [(0, iv x0), (1, iv x1), (4, pv b21), (17, .bool x27)] ρ ∧ St E [rB b21 (List.map (Value.int .u8) (List.replicate 2 (0 : Int))) 216] I h) ?_ ?_
 ·refine st 2 [] (k_ite H (fun c25 H => ?_) (fun c25 H => ?_))
  ·exact st 7 [] (k_end ⟨true, I, H, ft, hs.pk (.c d0 .n)⟩)
  refine st 3 [] (k_ite H (fun c26 H => ?_) (fun c26 H => ?_))
  ·exact st 3 [] (k_end ⟨true, I, H, ft, hs.pk (.c d0 .n)⟩)
  exact st 3 [] (k_end ⟨false, I, H, ft, hs.pk (.c d0 .n)⟩)
 clear H
 rintro ρ h ⟨x27, I, H, hf, hs⟩
 refine k_fits _ hf ?_ rfl
 subst e54
 try dsimp only at H
 cases x27
 rotate_left
 ·rw [cond_true] at H
  refine st 5 [true] (k_op (sAN (l2 := (List.replicate 2 (0 : Int))) hs (List.length_replicate (n := 2) (a := (0 : Int))) (List.length_replicate (n := 2) (a := (0 : Int))) ?_))
  intro h hs
  obtain rfl := si H
  exact st 2 [] (k_retQ ⟨[.agg (List.map (Value.int .u8) (List.replicate 2 (0 : Int))).toArray, .iface 137 (iv 4)], (.cons (.agg (by kernel_rfl) (by kernel_rfl) (by kernel_rfl) ((hs.bl d0).arrSeg (List.length_replicate (n := 2) (a := (0 : Int))))) (.cons (.tmp (by kernel_rfl)) .nil)), I, _, ⟨(.iface 137 (iv 4)), rfl, rfl, (List.length_replicate (n := 2) (a := (0 : Int)))⟩, hs.pk (.f imEC .n)⟩)
 rw [cond_false] at H
 refine st 4 [false] (k_call H (fun _ m => addr_Long.calls m) ?_)
 rintro t29 _ _ H ⟨rfl, rfl⟩
 cases t29
 rotate_left
 ·rw [cond_true] at H
  refine st 11 [true] (k_op (sAN (l2 := [(IntKind.u8.wrap ((shr .i64 x0 8))), (IntKind.u8.wrap (x0))]) hs (List.length_replicate (n := 2) (a := (0 : Int))) rfl ?_))
  intro h hs
  obtain rfl := si H
  exact st 2 [] (k_retQ ⟨[.agg (List.map (Value.int .u8) [(IntKind.u8.wrap ((shr .i64 x0 8))), (IntKind.u8.wrap (x0))]).toArray, .nilIface], (.cons (.agg (by kernel_rfl) (by kernel_rfl) (by kernel_rfl) ((hs.bl d0).arrSeg rfl)) (.cons (.tmp (by kernel_rfl)) .nil)), I, _, ⟨(.nilIface), rfl, rfl, rfl⟩, hs.pk (.f imEN .n)⟩)
 rw [cond_false] at H
 refine st 7 [false] (k_op (nA hs (List.map (Value.int .u8) (List.replicate 2 (0 : Int))) (.agg (List.map (Value.int .u8) (List.replicate 2 (0 : Int))).toArray) ?_))
 intro b30 h hs
 refine st 8 [] (k_op (nS (e := 3) hs .i (tInt .i64) ([(shr .i64 x0 6), (bAnd .i64 x0 63)] : List Int) [iv (shr .i64 x0 6), iv (bAnd .i64 x0 63)] 1 (iv 0) (Reps.int (I := (Cl.G .i E.B I)) (k := .i64) (l := [(shr .i64 x0 6), (bAnd .i64 x0 63)])) ?_))
 intro b31 h hs
 refine st 4 [] ?_
 obtain ⟨s36, m40, HR39⟩ := bind_some H
 refine k_loop 1 (fun k' ρ h => ∃ (x33 : Int) (x35 : List Int), ∃ I, addr_Put.l1.m K x0 k' x33 x35 = some s36 ∧ Fits [(4, pv b21), (6, pv b30), (40, .slice (sa b31) 2 2), (41, iv (2 : Int)), (42, iv x33)] ρ ∧ List.length x35 = 2 ∧ St E [rO (tInt .i64) .i (sa b31) 2 2 [(shr .i64 x0 6), (bAnd .i64 x0 63)], rB b30 (List.map (Value.int .u8) x35) 216, rB b21 (List.map (Value.int .u8) (List.replicate 2 (0 : Int))) 216] I h) (fun ρ h => ∃ (x38 : List Int), ∃ I, Sum.inr x38 = s36 ∧ Fits [(4, pv b21), (6, pv b30)] ρ ∧ List.length x38 = 2 ∧ St E [rB b30 (List.map (Value.int .u8) x38) 216, rB b21 (List.map (Value.int .u8) (List.replicate 2 (0 : Int))) 216] I h) K ⟨0, (List.replicate 2 (0 : Int)), I, m40, ft, (List.length_replicate (n := 2) (a := (0 : Int))), hs.pk (.c d0 (.c d0 (.c d0 .n)))⟩ ?_ rfl ?_
 rotate_left
 ·rintro ρ h ⟨x38, I, rfl, hf, hl37, hs⟩
  have H := HR39
  try dsimp only at H
  refine k_fits _ hf ?_ rfl
  refine st 2 [] (k_op (lG ((hs.bl d0).arrSeg hl37) ?_))
  refine k_op (sAN (l2 := x38) (hs.f d1) (List.length_replicate (n := 2) (a := (0 : Int))) hl37 ?_)
  intro h hs
  obtain rfl := si H
  exact st 2 [] (k_retQ ⟨[.agg (List.map (Value.int .u8) x38).toArray, .nilIface], (.cons (.agg (by kernel_rfl) (by kernel_rfl) (by kernel_rfl) ((hs.bl d0).arrSeg hl37)) (.cons (.tmp (by kernel_rfl)) .nil)), I, _, ⟨(.nilIface), rfl, rfl, hl37⟩, hs.pk (.f imEN .n)⟩)
 clear m40 H
 rintro k' ρ h ⟨x33, x35, I, H, hf, hl34, hs⟩
 cases k' with
 | zero => cases H
 | succ k =>
  rw [addr_Put.l1.m] at H
  refine k_fits _ hf ?_ rfl
  refine st 1 [] ?_
  obtain ⟨j43, e53, H⟩ := letJ_some H
  refine k_joinT (fun T ρ h => ∃ (x42 : Bool), ∃ I, j43 x42 = some s36 ∧ Fits [(4, pv b21), (6, pv b30), (40, .slice (sa b31) 2 2), (41, iv (2 : Int)), (42, iv x33), (43, .bool x42)] ρ ∧ St E T I h) hs tl0 ?_ ?_
  ·refine st 1 [] (k_ite H (fun c41 H => ?_) (fun c41 H => ?_))
   ·exact st 1 [] (k_end ⟨true, I, H, ft, hs⟩)
   exact st 1 [] (k_end ⟨false, I, H, ft, hs⟩)
  clear H
  rintro ρ h ⟨x42, I, H, hf, hs⟩
  refine k_fits _ hf ?_ rfl
  subst e53
  try dsimp only at H
  cases x42
  ·rw [cond_false] at H
   refine st 2 [false] (k_out rfl ?_)
   obtain rfl := si H
   exact xE ⟨x35, I, rfl, ft, hl34, hs.pk (.c d1 (.c d1 .n))⟩
  rw [cond_true] at H
  obtain ⟨c44, H⟩ := guard_pos H
  obtain ⟨c45, H⟩ := guard_pos H
  refine st 8 [true] (k_val (elemPtr (sa b31) (x33.toNat * 1)) (pI (e := 3) (ik := .i64) (hs.sO d0) c44 c45) ?_)
  refine k_op (lC ((hs.sO d0).cell1 c44 c45) ?_)
  obtain ⟨hk, bk⟩ := hs.call tk0 .n
  refine st 6 [] (k_call H (fun _ m => six_Put.calls m hk) ?_)
  rintro t46 _ h H ⟨I, _, ⟨v47, rfl, rfl⟩, hk⟩
  replace hs := bk hk ct1 rfl
  rcases (hs.er d0).cases with ⟨c49, rfl⟩ | ⟨c49, t50, u51, rfl⟩
  ·rw [if_pos c49] at H
   obtain ⟨c52, H⟩ := guard_pos H
   refine st 17 [false] (k_val (elemPtr (sa b30) (x33.toNat * 1)) (pr_indexArr (e := 5) (kk := .i64) (n := 2) (by kernel_rfl) (by kernel_rfl) (by kernel_rfl) (by kernel_rfl) c44 c52) ?_)
   refine k_op (sA (hs.f d2) t46.1 hl34 c44 c52 ?_)
   intro h hs
   exact st 6 [] (k_endL ⟨k, Nat.lt_succ_self _, (w64 (x33 + 1)), (x35.set x33.toNat t46.1), I, H, ft, (len_set hl34), hs.pk (.c d2 (.c d0 (.c d1 .n)))⟩)
  rw [if_neg c49] at H
  refine st 17 [true] (k_op (sAN (l2 := (List.replicate 2 (0 : Int))) (hs.f d3) (List.length_replicate (n := 2) (a := (0 : Int))) (List.length_replicate (n := 2) (a := (0 : Int))) ?_))
  intro h hs
  refine st 2 [] (k_retQ (krL ?_))
  obtain rfl := si H
  obtain rfl := Option.some.inj HR39
  exact ⟨[.agg (List.map (Value.int .u8) (List.replicate 2 (0 : Int))).toArray, (.iface t50 u51)], (.cons (.agg (by kernel_rfl) (by kernel_rfl) (by kernel_rfl) ((hs.bl d0).arrSeg (List.length_replicate (n := 2) (a := (0 : Int))))) (.cons (.tmp (by kernel_rfl)) .nil)), I, _, ⟨((.iface t50 u51)), rfl, rfl, (List.length_replicate (n := 2) (a := (0 : Int)))⟩, hs.pk (.c d1 .n)⟩
end Go.Proofs.YtjkbhpokboolpaaGreatDoor.Sx
