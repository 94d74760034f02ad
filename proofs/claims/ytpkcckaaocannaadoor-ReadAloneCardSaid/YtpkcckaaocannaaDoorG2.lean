/- Printed walks, part 2: each function's model, and that the code comes to it. -/
import Derived.Test.YtpkcckaaocannaaDoorProg
import Derived.Test.YtpkcckaaocannaaDoorV4
import Derived.Test.YtpkcckaaocannaaDoorV5
import Derived.Test.YtpkcckaaocannaaDoorV6
import Derived.Test.YtpkcckaaocannaaDoorV7
import Derived.Test.YtpkcckaaocannaaDoorG1
namespace Go.Proofs.YtpkcckaaocannaaDoor.Sx
open Go
set_option maxRecDepth 100000
set_option maxHeartbeats 4000000

/-! shutter/shutterref08.Same -/
def shutterref08_Same.l1.m (K : Nat) (x0 : api_Out) (x1 : api_Out) : Nat → Int → Option (Bool ⊕ (Unit))
  | 0, _ => none
  | k + 1, x34 => (if x34 < (x0.Orders.length : Int) then (if 0 ≤ x34 then (if x34 < (x1.Orders.length : Int) then ((shutterref07_Same.m K (⟨(at_ x0.Orders x34).Kind, (at_ x0.Orders x34).Text, ((at_ x0.Orders x34).Attr), (at_ x0.Orders x34).Addr, (at_ x0.Orders x34).Char⟩ : api_Order) (⟨(at_ x1.Orders x34).Kind, (at_ x1.Orders x34).Text, ((at_ x1.Orders x34).Attr), (at_ x1.Orders x34).Addr, (at_ x1.Orders x34).Char⟩ : api_Order)).bind fun t57 => bif t57 then (shutterref08_Same.l1.m K x0 x1 k (w64 (x34 + 1))) else (some (Sum.inl false))) else none) else none) else (some (Sum.inr ())))
def shutterref08_Same.m (K : Nat) (x0 : api_Out) (x1 : api_Out) : Option Bool :=
  (if x0.Cmd = x1.Cmd then (bif ((x0.Wcc.Alarm == x1.Wcc.Alarm) && ((x0.Wcc.Unlock == x1.Wcc.Unlock) && ((x0.Wcc.Reset == x1.Wcc.Reset) && true))) then (if (x0.Orders.length : Int) = (x1.Orders.length : Int) then ((shutterref08_Same.l1.m K x0 x1 K 0).bind fun s35 => match s35 with | .inl q => (some q) | .inr _ => (some true)) else (some false)) else (some false)) else (some false))

theorem shutterref08_Same.calls {B I : Gh} {h : Heap} {K : Nat} {x0 : api_Out} {x1 : api_Out} {a21 : Option Addr} {p22 : Nat} {n23 : Nat} {a25 : Option Addr} {p26 : Nat} {n27 : Nat} {r : Bool} (H : shutterref08_Same.m K x0 x1 = some r)  :
    Fc Tryd.prog 18 #[.agg #[.int .i64 x0.Cmd, .bool x0.Wcc.Alarm, .bool x0.Wcc.Unlock, .bool x0.Wcc.Reset, .slice a21 n23 p22], .agg #[.int .i64 x1.Cmd, .bool x1.Wcc.Alarm, .bool x1.Wcc.Unlock, .bool x1.Wcc.Reset, .slice a25 n27 p26]] [rR t_api_Order .b a21 p22 n23 x0.Orders, rR t_api_Order .b a25 p26 n27 x1.Orders] B I h (fun v L => v = .bool r ∧ L = []) := by
 refine fc_of fun E hs => ?_
 unfold shutterref08_Same.m at H
 obtain rfl := hs.nR d0
 obtain rfl := hs.nR d1
 refine fn_of (args := [.agg #[.int .i64 x0.Cmd, .bool x0.Wcc.Alarm, .bool x0.Wcc.Unlock, .bool x0.Wcc.Reset, .slice a21 x0.Orders.length p22], .agg #[.int .i64 x1.Cmd, .bool x1.Wcc.Alarm, .bool x1.Wcc.Unlock, .bool x1.Wcc.Reset, .slice a25 x1.Orders.length p26]]) (rs := [.tmp 4]) (N := 46) Tryd.func18 rfl rfl rfl rfl ?_
 refine st 2 [] (k_op (nB hs [.int .i64 x0.Cmd, .bool x0.Wcc.Alarm, .bool x0.Wcc.Unlock, .bool x0.Wcc.Reset, .slice a21 x0.Orders.length p22] ?_))
 intro b29 h hs
 refine k_op (nB hs [.int .i64 x1.Cmd, .bool x1.Wcc.Alarm, .bool x1.Wcc.Unlock, .bool x1.Wcc.Reset, .slice a25 x1.Orders.length p26] ?_)
 intro b30 h hs
 refine st 6 [] (k_op (lB (hs.bl d1) 0 rfl ?_))
 refine st 1 [] (k_op (lB (hs.bl d0) 0 rfl ?_))
 refine k_iteN H (fun c31 H => ?_) (fun c31 H => ?_)
 ·refine st 2 [] (k_op (lN (hs.bl d1) 1 3 ?_))
  refine st 1 [] (k_op (lN (hs.bl d0) 1 3 ?_))
  rcases bool_or ((x0.Wcc.Alarm == x1.Wcc.Alarm) && ((x0.Wcc.Unlock == x1.Wcc.Unlock) && ((x0.Wcc.Reset == x1.Wcc.Reset) && true))) with c32 | c32
  ·replace H := bif_f c32 H
   refine k_op (owp_run (.bool true) (run_bool (run_neAgg (xs := #[.bool x0.Wcc.Alarm, .bool x0.Wcc.Unlock, .bool x0.Wcc.Reset]) (ys := #[.bool x1.Wcc.Alarm, .bool x1.Wcc.Unlock, .bool x1.Wcc.Reset]) (by kernel_rfl) (by kernel_rfl) (by kernel_rfl) (eqB_run (b := ((x0.Wcc.Alarm == x1.Wcc.Alarm) && ((x0.Wcc.Unlock == x1.Wcc.Unlock) && ((x0.Wcc.Reset == x1.Wcc.Reset) && true)))) (by kernel_rfl))) (notB c32)) ?_)
   refine st 16 [true] ?_
   refine k_retQ ?_
   obtain rfl := Option.some.inj H
   exact ⟨_, by kernel_rfl, I, _, ⟨rfl, rfl⟩, hs.pk .n⟩
  ·replace H := bif_t c32 H
   refine k_op (owp_run (.bool false) (run_bool (run_neAgg (xs := #[.bool x0.Wcc.Alarm, .bool x0.Wcc.Unlock, .bool x0.Wcc.Reset]) (ys := #[.bool x1.Wcc.Alarm, .bool x1.Wcc.Unlock, .bool x1.Wcc.Reset]) (by kernel_rfl) (by kernel_rfl) (by kernel_rfl) (eqB_run (b := ((x0.Wcc.Alarm == x1.Wcc.Alarm) && ((x0.Wcc.Unlock == x1.Wcc.Unlock) && ((x0.Wcc.Reset == x1.Wcc.Reset) && true)))) (by kernel_rfl))) (notB c32)) ?_)
   refine st 3 [] (k_op (lB (hs.bl d1) 4 rfl ?_))
   refine st 2 [] (k_op (lB (hs.bl d0) 4 rfl ?_))
   refine st 1 [] (k_iteN H (fun c33 H => ?_) (fun c33 H => ?_))
   ·refine st 10 [false] ?_
    obtain ⟨s35, m37, HR36⟩ := bind_some H
    refine k_loop 0 (fun k' ρ h => ∃ (x34 : Int) (I : Gh), shutterref08_Same.l1.m K x0 x1 k' x34 = some s35 ∧ Fits [(2, .pointer (some ⟨b29, 0, none⟩)), (3, .pointer (some ⟨b30, 0, none⟩)), (5, .int .i64 x34)] ρ ∧ St E [rR t_api_Order .b a21 p22 x0.Orders.length x0.Orders, rB b29 [.int .i64 x0.Cmd, .bool x0.Wcc.Alarm, .bool x0.Wcc.Unlock, .bool x0.Wcc.Reset, .slice a21 x0.Orders.length p22] 45, rR t_api_Order .b a25 p26 x1.Orders.length x1.Orders, rB b30 [.int .i64 x1.Cmd, .bool x1.Wcc.Alarm, .bool x1.Wcc.Unlock, .bool x1.Wcc.Reset, .slice a25 x1.Orders.length p26] 45] I h) (fun ρ h => ∃ (I : Gh), Sum.inr () = s35 ∧ Fits [] ρ ∧ St E [] I h) K ⟨0, I, m37, ⟨by kernel_rfl, by kernel_rfl, by kernel_rfl, trivial⟩, hs.pk (.c d2 (.c d1 (.c d1 (.c d0 .n))))⟩ ?_ rfl ?_
    ·clear m37 H
     rintro k' ρ h ⟨x34, I, H, hf, hs⟩
     cases k' with
     | zero => cases H
     | succ k =>
      rw [shutterref08_Same.l1.m] at H
      refine k_fits _ hf ?_ rfl
      refine st 5 [] (k_op (lB (hs.bl d1) 4 rfl ?_))
      refine st 1 [] (k_ite H (fun c38 H => ?_) (fun c38 H => ?_))
      ·refine st 6 [true] ?_
       obtain ⟨hs0, bk0⟩ := hs.call tk0 (.c (qL d1) (.c (qB d0) (.c (qL d3) (.c (qB d2) .n))))
       have hs := hs0
       refine k_regD hs0 12 ?_
       refine aRun [0] 11 hs.keep ?_
       refine aL 1 rfl hs.keep (ll hs0 d0 (n := 4) rfl) (nmL hs0 d0) ?_
       obtain ⟨c39, H⟩ := guard_pos H
       refine aRun [2] 9 hs.keep ?_
       refine aP 3 (elemPtr a21 (x34.toNat * 8)) rfl (pI (e := 51) (ik := .i64) (hs.sR d1) c39 c38) hs.keep ?_
       obtain ⟨y41, g40, q42⟩ := (hs0.sR d1).toSl.seg c39 c38
       obtain ⟨a43, p44, n45, rfl, q47⟩ := t_api_Order.open_ q42
       obtain rfl := q47.2
       replace hs := hs.pR q47
       refine aG 4 rfl hs.keep g40 (nmR hs0 d1 c39 c38) ?_
       refine aRun [5] 6 hs.keep ?_
       refine aL 6 rfl hs.keep (ll hs0 d2 (n := 4) rfl) (nmL hs0 d2) ?_
       obtain ⟨c48, H⟩ := guard_pos H
       refine aRun [7] 4 hs.keep ?_
       refine aP 8 (elemPtr a25 (x34.toNat * 8)) rfl (pI (e := 51) (ik := .i64) (hs.sR d4) c39 c48) hs.keep ?_
       obtain ⟨y50, g49, q51⟩ := (hs0.sR d3).toSl.seg c39 c48
       obtain ⟨a52, p53, n54, rfl, q56⟩ := t_api_Order.open_ q51
       obtain rfl := q56.2
       replace hs := hs.pR q56
       refine aG 9 rfl hs.keep g49 (nmR hs0 d3 c39 c48) ?_
       obtain ⟨hk, bk⟩ := hs.call tk0 (.c (qB d1) (.c (qB d0) .n))
       refine aO1 10 rfl (o_call H (fun _ m => shutterref07_Same.calls m hk) ?_)
       rintro t57 _ h H ⟨I, _, ⟨rfl, rfl⟩, hk⟩
       replace hs := bk hk ct0 rfl
       refine ⟨hs.keep, ?_⟩
       cases t57
       ·rw [cond_false] at H
        refine aRun [11] 0 hs.keep ?_
        replace hs := hs.pk .n
        replace hs := bk0 hs ct0 rfl
        refine aEnd ?_
        refine st 5 [true] ?_
        refine k_retQ (krL ?_)
        obtain rfl := Option.some.inj H
        obtain rfl := Option.some.inj HR36
        exact ⟨_, by kernel_rfl, I, _, ⟨rfl, rfl⟩, hs.pk .n⟩
       ·rw [cond_true] at H
        refine aRun [11] 0 hs.keep ?_
        replace hs := hs.pk .n
        replace hs := bk0 hs ct0 rfl
        refine aEnd ?_
        refine st 8 [false] ?_
        exact k_endL ⟨k, Nat.lt_succ_self _, (w64 (x34 + 1)), I, H, ⟨by kernel_rfl, by kernel_rfl, by kernel_rfl, trivial⟩, hs.pk (.c d0 (.c d0 (.c d0 (.c d0 .n))))⟩
      ·refine st 2 [false] ?_
       refine k_out rfl ?_
       obtain rfl := Option.some.inj H
       exact xE ⟨I, rfl, trivial, hs.pk .n⟩
    ·rintro ρ h ⟨I, rfl, hf, hs⟩
     have H := HR36
     try dsimp only at H
     refine k_fits _ hf ?_ rfl
     refine st 4 [] ?_
     refine k_retQ ?_
     obtain rfl := Option.some.inj H
     exact ⟨_, by kernel_rfl, I, _, ⟨rfl, rfl⟩, hs.pk .n⟩
   ·refine st 7 [true] ?_
    refine k_retQ ?_
    obtain rfl := Option.some.inj H
    exact ⟨_, by kernel_rfl, I, _, ⟨rfl, rfl⟩, hs.pk .n⟩
 ·refine st 22 [true] ?_
  refine k_retQ ?_
  obtain rfl := Option.some.inj H
  exact ⟨_, by kernel_rfl, I, _, ⟨rfl, rfl⟩, hs.pk .n⟩

/-! shutter/shutterref18.Image -/
def shutterref18_Image.l2.m (K : Nat) (x0 : api_Screen) : Nat → Int → (List Int) → Option (Int × (List Int))
  | 0, _, _ => none
  | k + 1, x61, x62 => (if x61 < (x0.Cells.length : Int) then (if 0 ≤ x61 then (bif (at_ x0.Cells x61).Field then (some ((x61, x62))) else ((app x62 [(at_ x0.Cells x61).Char]).bind fun l84 => (shutterref18_Image.l2.m K x0 k (w64 (x61 + 1)) l84))) else none) else (some ((x61, x62))))
def shutterref18_Image.l1.m (K : Nat) (x0 : api_Screen) : Nat → (List api_Order) → Int → Option ((List api_Order))
  | 0, _, _ => none
  | k + 1, x28, x33 => (if x33 < (x0.Cells.length : Int) then (letJ (α := Bool → Option ((List api_Order))) (fun (x48 : Bool) => (bif x48 then (if 0 ≤ x33 then ((app x28 ([(⟨2, [], ((at_ x0.Cells x33).Attr), 0, 0⟩ : api_Order)])).bind fun l56 => (shutterref18_Image.l1.m K x0 k l56 (w64 (x33 + 1)))) else none) else ((shutterref18_Image.l2.m K x0 K x33 []).bind fun (x68, x69) => ((app x28 [(⟨1, x69, (⟨false, false, 0, false⟩ : api_Attr), 0, 0⟩ : api_Order)]).bind fun l91 => (shutterref18_Image.l1.m K x0 k l91 x68))))) fun (j49 : Bool → Option ((List api_Order))) => (if 0 ≤ x33 then (bif (at_ x0.Cells x33).Field then (j49 true) else (j49 false)) else none)) else (some (x28)))
def shutterref18_Image.m (K : Nat) (x0 : api_Screen) : Option (List api_Order) :=
  ((shutterref18_Image.l1.m K x0 K ([(⟨3, [], (⟨false, false, 0, false⟩ : api_Attr), 0, 0⟩ : api_Order)]) 0).bind fun x35 => (if x0.Cursor > 0 then ((app x35 ([(⟨3, [], (⟨false, false, 0, false⟩ : api_Attr), x0.Cursor, 0⟩ : api_Order)])).bind fun l100 => ((app l100 ([(⟨4, [], (⟨false, false, 0, false⟩ : api_Attr), 0, 0⟩ : api_Order)])).bind fun l107 => (some l107))) else ((app x35 ([(⟨4, [], (⟨false, false, 0, false⟩ : api_Attr), 0, 0⟩ : api_Order)])).bind fun l114 => (some l114))))

theorem shutterref18_Image.calls {B I : Gh} {h : Heap} {K : Nat} {x0 : api_Screen} {a21 : Option Addr} {p22 : Nat} {n23 : Nat} {r : (List api_Order)} (H : shutterref18_Image.m K x0 = some r)  :
    Fc Tryd.prog 20 #[.agg #[.int .i64 x0.Rows, .int .i64 x0.Cols, .slice a21 n23 p22, .int .i64 x0.Cursor, .bool x0.Locked, .bool x0.Insert]] [rR t_api_Cell .b a21 p22 n23 x0.Cells] B I h (fun v L => ∃ (a119 : Option Addr) (p120 : Nat) (n121 : Nat), v = .slice a119 n121 p120 ∧ L = [rO t_api_Order .i a119 p120 n121 r]) := by
 refine fc_of fun E hs => ?_
 unfold shutterref18_Image.m at H
 obtain rfl := hs.nR d0
 refine fn_of (args := [.agg #[.int .i64 x0.Rows, .int .i64 x0.Cols, .slice a21 x0.Cells.length p22, .int .i64 x0.Cursor, .bool x0.Locked, .bool x0.Insert]]) (rs := [.tmp 2]) (N := 74) Tryd.func20 rfl rfl rfl rfl ?_
 refine st 2 [] (k_op (nB hs [.int .i64 x0.Rows, .int .i64 x0.Cols, .slice a21 x0.Cells.length p22, .int .i64 x0.Cursor, .bool x0.Locked, .bool x0.Insert] ?_))
 intro b25 h hs
 refine st 5 [] (k_op (nS (e := 51) hs .i t_api_Order ([(⟨3, [], (⟨false, false, 0, false⟩ : api_Attr), 0, 0⟩ : api_Order)] : List api_Order) [.int .i64 3, .slice none 0 0, .bool false, .bool false, .int .i64 0, .bool false, .int .i64 0, .int .u8 0] 8 (.agg #[.int .i64 0, .slice none 0 0, .bool false, .bool false, .int .i64 0, .bool false, .int .i64 0, .int .u8 0]) (Reps.cons (T := t_api_Order) (c := [.int .i64 3, .slice none 0 0, .bool false, .bool false, .int .i64 0, .bool false, .int .i64 0, .int .u8 0]) (x := (⟨3, [], (⟨false, false, 0, false⟩ : api_Attr), 0, 0⟩ : api_Order)) ⟨none, 0, 0, rfl, ⟨rd_nil _ _ _, rfl⟩⟩ (.nil : Reps t_api_Order (Cl.G .i E.B I) h [] [])) ?_))
 intro b26 h hs
 refine st 8 [] ?_
 obtain ⟨s34, m41, HR40⟩ := bind_some H
 refine k_loop 0 (fun k' ρ h => ∃ (x28 : List api_Order) (x33 : Int) (a29 : Option Addr) (p30 : Nat) (n31 : Nat) (I : Gh), shutterref18_Image.l1.m K x0 k' x28 x33 = some s34 ∧ Fits [(1, .pointer (some ⟨b25, 0, none⟩)), (3, .slice a29 n31 p30), (4, .int .i64 x33)] ρ ∧ St E [rO t_api_Order .i a29 p30 n31 x28, rR t_api_Cell .b a21 p22 x0.Cells.length x0.Cells, rB b25 [.int .i64 x0.Rows, .int .i64 x0.Cols, .slice a21 x0.Cells.length p22, .int .i64 x0.Cursor, .bool x0.Locked, .bool x0.Insert] 24] I h) (fun ρ h => ∃ (x35 : List api_Order) (a36 : Option Addr) (p37 : Nat) (n38 : Nat) (I : Gh), x35 = s34 ∧ Fits [(1, .pointer (some ⟨b25, 0, none⟩)), (3, .slice a36 n38 p37)] ρ ∧ St E [rO t_api_Order .i a36 p37 n38 x35, rR t_api_Cell .b a21 p22 x0.Cells.length x0.Cells, rB b25 [.int .i64 x0.Rows, .int .i64 x0.Cols, .slice a21 x0.Cells.length p22, .int .i64 x0.Cursor, .bool x0.Locked, .bool x0.Insert] 24] I h) K ⟨[(⟨3, [], (⟨false, false, 0, false⟩ : api_Attr), 0, 0⟩ : api_Order)], 0, (some ⟨b26, 0, none⟩), 1, 1, I, m41, ⟨by kernel_rfl, by kernel_rfl, by kernel_rfl, trivial⟩, hs.pk (.c d0 (.c d1 (.c d0 .n)))⟩ ?_ rfl ?_
 ·clear HR40 m41 H
  rintro k' ρ h ⟨x28, x33, a29, p30, n31, I, H, hf, hs⟩
  cases k' with
  | zero => cases H
  | succ k =>
   rw [shutterref18_Image.l1.m] at H
   refine k_fits _ hf ?_ rfl
   obtain rfl := hs.nO d0
   refine st 5 [] (k_op (lB (hs.bl d2) 2 rfl ?_))
   refine st 1 [] (k_ite H (fun c42 H => ?_) (fun c42 H => ?_))
   ·refine st 6 [true] ?_
    obtain ⟨j49, e96, H⟩ := letJ_some H
    refine k_join (fun ρ h => ∃ (x48 : Bool) (I : Gh), j49 x48 = some s34 ∧ Fits [(1, .pointer (some ⟨b25, 0, none⟩)), (3, .slice a29 x28.length p30), (4, .int .i64 x33), (18, .bool x48)] ρ ∧ St E [rO t_api_Order .i a29 p30 x28.length x28, rR t_api_Cell .b a21 p22 x0.Cells.length x0.Cells, rB b25 [.int .i64 x0.Rows, .int .i64 x0.Cols, .slice a21 x0.Cells.length p22, .int .i64 x0.Cursor, .bool x0.Locked, .bool x0.Insert] 24] I h) ?_ ?_
    ·refine st 2 [] (k_op (lB (hs.bl d2) 2 rfl ?_))
     obtain ⟨c43, H⟩ := guard_pos H
     refine st 1 [] (k_val (elemPtr a21 (x33.toNat * 6)) (pI (e := 83) (ik := .i64) (hs.sR d1) c43 c42) ?_)
     refine k_val (elemPtr a21 (x33.toNat * 6 + 0)) (pF (off := 0) (hs.sR d1) c43 c42) ?_
     obtain ⟨y45, g44, q46⟩ := (hs.sR d1).toSl.seg c43 c42
     obtain rfl := t_api_Cell.open_ q46
     refine k_op (lC (seg_cell (f := 0) g44 rfl) ?_)
     refine k_spl H (fun c47 H => ?_) (fun c47 H => ?_)
     ·refine st 1 [] ?_
      exact k_end ⟨true, I, H, ⟨by kernel_rfl, by kernel_rfl, by kernel_rfl, by kernel_rfl, trivial⟩, hs.pk (.c d0 (.c d0 (.c d0 .n)))⟩
     ·refine st 1 [] ?_
      exact k_end ⟨false, I, H, ⟨by kernel_rfl, by kernel_rfl, by kernel_rfl, by kernel_rfl, trivial⟩, hs.pk (.c d0 (.c d0 (.c d0 .n)))⟩
    ·clear H
     rintro ρ h ⟨x48, I, H, hf, hs⟩
     refine k_fits _ hf ?_ rfl
     subst e96
     try dsimp only at H
     cases x48
     ·rw [cond_false] at H
      refine st 8 [false] ?_
      obtain ⟨s67, m75, HR74⟩ := bind_some H
      refine k_loop 2 (fun k' ρ h => ∃ (x61 : Int) (x62 : List Int) (a63 : Option Addr) (p64 : Nat) (n65 : Nat) (I : Gh), shutterref18_Image.l2.m K x0 k' x61 x62 = some s67 ∧ Fits [(1, .pointer (some ⟨b25, 0, none⟩)), (3, .slice a29 x28.length p30), (4, .int .i64 x61), (5, .slice a63 n65 p64)] ρ ∧ St E [rO t_api_Order .i a29 p30 x28.length x28, rO (tInt .u8) .i a63 p64 n65 x62, rR t_api_Cell .b a21 p22 x0.Cells.length x0.Cells, rB b25 [.int .i64 x0.Rows, .int .i64 x0.Cols, .slice a21 x0.Cells.length p22, .int .i64 x0.Cursor, .bool x0.Locked, .bool x0.Insert] 24] I h) (fun ρ h => ∃ (x68 : Int) (x69 : List Int) (a70 : Option Addr) (p71 : Nat) (n72 : Nat) (I : Gh), (x68, x69) = s67 ∧ Fits [(1, .pointer (some ⟨b25, 0, none⟩)), (3, .slice a29 x28.length p30), (4, .int .i64 x68), (5, .slice a70 n72 p71)] ρ ∧ St E [rO t_api_Order .i a29 p30 x28.length x28, rO (tInt .u8) .i a70 p71 n72 x69, rR t_api_Cell .b a21 p22 x0.Cells.length x0.Cells, rB b25 [.int .i64 x0.Rows, .int .i64 x0.Cols, .slice a21 x0.Cells.length p22, .int .i64 x0.Cursor, .bool x0.Locked, .bool x0.Insert] 24] I h) K ⟨x33, [], none, 0, 0, I, m75, ⟨by kernel_rfl, by kernel_rfl, by kernel_rfl, by kernel_rfl, trivial⟩, hs.pk (.c d0 (.f imON (.c d0 (.c d0 .n))))⟩ ?_ rfl ?_
      ·clear HR74 m75 H
       rintro k' ρ h ⟨x61, x62, a63, p64, n65, I, H, hf, hs⟩
       cases k' with
       | zero => cases H
       | succ k =>
        rw [shutterref18_Image.l2.m] at H
        refine k_fits _ hf ?_ rfl
        obtain rfl := hs.nO d1
        refine st 5 [] (k_op (lB (hs.bl d3) 2 rfl ?_))
        refine st 1 [] (k_ite H (fun c76 H => ?_) (fun c76 H => ?_))
        ·refine st 2 [] (k_op (lB (hs.bl d3) 2 rfl ?_))
         obtain ⟨c77, H⟩ := guard_pos H
         refine st 1 [] (k_val (elemPtr a21 (x61.toNat * 6)) (pI (e := 83) (ik := .i64) (hs.sR d2) c77 c76) ?_)
         refine k_val (elemPtr a21 (x61.toNat * 6 + 0)) (pF (off := 0) (hs.sR d2) c77 c76) ?_
         obtain ⟨y79, g78, q80⟩ := (hs.sR d2).toSl.seg c77 c76
         obtain rfl := t_api_Cell.open_ q80
         refine k_op (lC (seg_cell (f := 0) g78 rfl) ?_)
         refine k_spl H (fun c81 H => ?_) (fun c81 H => ?_)
         ·refine st 4 [false] ?_
          refine k_out rfl ?_
          obtain rfl := Option.some.inj H
          exact xE ⟨x61, x62, a63, p64, x62.length, I, rfl, ⟨by kernel_rfl, by kernel_rfl, by kernel_rfl, by kernel_rfl, trivial⟩, hs.pk (.c d0 (.c d0 (.c d0 (.c d0 .n))))⟩
         ·refine st 10 [true] (k_op (lB (hs.bl d3) 2 rfl ?_))
          refine st 1 [] (k_val (elemPtr a21 (x61.toNat * 6)) (pI (e := 83) (ik := .i64) (hs.sR d2) c77 c76) ?_)
          refine k_val (elemPtr a21 (x61.toNat * 6 + 5)) (pF (off := 5) (hs.sR d2) c77 c76) ?_
          refine k_op (lC (seg_cell (f := 5) g78 rfl) ?_)
          refine k_op (nS (e := 5) hs .i (tInt .u8) ([(at_ x0.Cells x61).Char] : List Int) [.int .u8 ((at_ x0.Cells x61).Char)] 1 (.int .u8 0) (Reps.int (I := (Cl.G .i E.B I)) (k := .u8) (l := [(at_ x0.Cells x61).Char])) ?_)
          intro b82 h hs
          replace hs := (hs.f d2)
          obtain ⟨l84, m85, H⟩ := bind_some H
          refine k_op (aO (e := 5) (bytes := 1) hs (hs.sO d1) m85 ?_)
          intro a86 p87 h hs
          refine st 8 [] ?_
          exact k_endL ⟨k, Nat.lt_succ_self _, (w64 (x61 + 1)), l84, a86, p87, l84.length, I, H, ⟨by kernel_rfl, by kernel_rfl, by kernel_rfl, by kernel_rfl, trivial⟩, hs.pk (.c d2 (.c d0 (.c d1 (.c d1 .n))))⟩
        ·refine st 11 [false] ?_
         refine k_out rfl ?_
         obtain rfl := Option.some.inj H
         exact xE ⟨x61, x62, a63, p64, x62.length, I, rfl, ⟨by kernel_rfl, by kernel_rfl, by kernel_rfl, by kernel_rfl, trivial⟩, hs.pk (.c d0 (.c d0 (.c d0 (.c d0 .n))))⟩
      ·rintro ρ h ⟨x68, x69, a70, p71, n72, I, rfl, hf, hs⟩
       have H := HR74
       try dsimp only at H
       refine k_fits _ hf ?_ rfl
       obtain rfl := hs.nO d1
       obtain ⟨I, hs⟩ := (hs.f d1).fO
       refine st 4 [] (k_op (nS (e := 51) hs .i t_api_Order ([(⟨1, x69, (⟨false, false, 0, false⟩ : api_Attr), 0, 0⟩ : api_Order)] : List api_Order) [.int .i64 1, .slice a70 x69.length p71, .bool false, .bool false, .int .i64 0, .bool false, .int .i64 0, .int .u8 0] 8 (.agg #[.int .i64 0, .slice none 0 0, .bool false, .bool false, .int .i64 0, .bool false, .int .i64 0, .int .u8 0]) (Reps.cons (T := t_api_Order) (c := [.int .i64 1, .slice a70 x69.length p71, .bool false, .bool false, .int .i64 0, .bool false, .int .i64 0, .int .u8 0]) (x := (⟨1, x69, (⟨false, false, 0, false⟩ : api_Attr), 0, 0⟩ : api_Order)) ⟨_, _, _, rfl, (hs.g d0)⟩ (.nil : Reps t_api_Order (Cl.G .i E.B I) h [] [])) ?_))
       intro b89 h hs
       replace hs := (hs.f d2)
       obtain ⟨l91, m92, H⟩ := bind_some H
       refine k_op (aO (e := 51) (bytes := 72) hs (hs.sO d1) m92 ?_)
       intro a93 p94 h hs
       refine st 3 [] ?_
       exact k_endL ⟨k, Nat.lt_succ_self _, l91, x68, a93, p94, l91.length, I, H, ⟨by kernel_rfl, by kernel_rfl, by kernel_rfl, trivial⟩, hs.pk (.c d0 (.c d2 (.c d2 .n)))⟩
     ·rw [cond_true] at H
      refine st 5 [true] (k_op (lB (hs.bl d2) 2 rfl ?_))
      obtain ⟨c50, H⟩ := guard_pos H
      refine st 1 [] (k_val (elemPtr a21 (x33.toNat * 6)) (pI (e := 83) (ik := .i64) (hs.sR d1) c50 c42) ?_)
      refine k_val (elemPtr a21 (x33.toNat * 6 + 1)) (pF (off := 1) (hs.sR d1) c50 c42) ?_
      obtain ⟨y52, g51, q53⟩ := (hs.sR d1).toSl.seg c50 c42
      obtain rfl := t_api_Cell.open_ q53
      refine k_op (lG (seg_sub (f := 1) (k := 4) g51 rfl) ?_)
      refine st 1 [] (k_op (nS (e := 51) hs .i t_api_Order ([(⟨2, [], ((at_ x0.Cells x33).Attr), 0, 0⟩ : api_Order)] : List api_Order) [.int .i64 2, .slice none 0 0, .bool (((at_ x0.Cells x33).Attr).Protected), .bool (((at_ x0.Cells x33).Attr).Numeric), .int .i64 (((at_ x0.Cells x33).Attr).Show), .bool (((at_ x0.Cells x33).Attr).Modified), .int .i64 0, .int .u8 0] 8 (.agg #[.int .i64 0, .slice none 0 0, .bool false, .bool false, .int .i64 0, .bool false, .int .i64 0, .int .u8 0]) (Reps.cons (T := t_api_Order) (c := [.int .i64 2, .slice none 0 0, .bool (((at_ x0.Cells x33).Attr).Protected), .bool (((at_ x0.Cells x33).Attr).Numeric), .int .i64 (((at_ x0.Cells x33).Attr).Show), .bool (((at_ x0.Cells x33).Attr).Modified), .int .i64 0, .int .u8 0]) (x := (⟨2, [], ((at_ x0.Cells x33).Attr), 0, 0⟩ : api_Order)) ⟨none, 0, 0, rfl, ⟨rd_nil _ _ _, rfl⟩⟩ (.nil : Reps t_api_Order (Cl.G .i E.B I) h [] [])) ?_))
      intro b54 h hs
      replace hs := (hs.f d1)
      obtain ⟨l56, m57, H⟩ := bind_some H
      refine k_op (aO (e := 51) (bytes := 72) hs (hs.sO d1) m57 ?_)
      intro a58 p59 h hs
      refine st 9 [] ?_
      exact k_endL ⟨k, Nat.lt_succ_self _, l56, (w64 (x33 + 1)), a58, p59, l56.length, I, H, ⟨by kernel_rfl, by kernel_rfl, by kernel_rfl, trivial⟩, hs.pk (.c d0 (.c d1 (.c d1 .n)))⟩
   ·refine st 2 [false] ?_
    refine k_out rfl ?_
    obtain rfl := Option.some.inj H
    exact xE ⟨x28, a29, p30, x28.length, I, rfl, ⟨by kernel_rfl, by kernel_rfl, trivial⟩, hs.pk (.c d0 (.c d0 (.c d0 .n)))⟩
 ·rintro ρ h ⟨x35, a36, p37, n38, I, rfl, hf, hs⟩
  have H := HR40
  try dsimp only at H
  refine k_fits _ hf ?_ rfl
  obtain rfl := hs.nO d0
  refine st 4 [] (k_op (lB (hs.bl d2) 3 rfl ?_))
  refine k_ite H (fun c97 H => ?_) (fun c97 H => ?_)
  ·refine st 5 [true] (k_op (lB (hs.bl d2) 3 rfl ?_))
   refine st 1 [] (k_op (nS (e := 51) hs .i t_api_Order ([(⟨3, [], (⟨false, false, 0, false⟩ : api_Attr), x0.Cursor, 0⟩ : api_Order)] : List api_Order) [.int .i64 3, .slice none 0 0, .bool false, .bool false, .int .i64 0, .bool false, .int .i64 x0.Cursor, .int .u8 0] 8 (.agg #[.int .i64 0, .slice none 0 0, .bool false, .bool false, .int .i64 0, .bool false, .int .i64 0, .int .u8 0]) (Reps.cons (T := t_api_Order) (c := [.int .i64 3, .slice none 0 0, .bool false, .bool false, .int .i64 0, .bool false, .int .i64 x0.Cursor, .int .u8 0]) (x := (⟨3, [], (⟨false, false, 0, false⟩ : api_Attr), x0.Cursor, 0⟩ : api_Order)) ⟨none, 0, 0, rfl, ⟨rd_nil _ _ _, rfl⟩⟩ (.nil : Reps t_api_Order (Cl.G .i E.B I) h [] [])) ?_))
   intro b98 h hs
   replace hs := (hs.f d1)
   obtain ⟨l100, m101, H⟩ := bind_some H
   refine k_op (aO (e := 51) (bytes := 72) hs (hs.sO d1) m101 ?_)
   intro a102 p103 h hs
   refine st 6 [] (k_op (nS (e := 51) hs .i t_api_Order ([(⟨4, [], (⟨false, false, 0, false⟩ : api_Attr), 0, 0⟩ : api_Order)] : List api_Order) [.int .i64 4, .slice none 0 0, .bool false, .bool false, .int .i64 0, .bool false, .int .i64 0, .int .u8 0] 8 (.agg #[.int .i64 0, .slice none 0 0, .bool false, .bool false, .int .i64 0, .bool false, .int .i64 0, .int .u8 0]) (Reps.cons (T := t_api_Order) (c := [.int .i64 4, .slice none 0 0, .bool false, .bool false, .int .i64 0, .bool false, .int .i64 0, .int .u8 0]) (x := (⟨4, [], (⟨false, false, 0, false⟩ : api_Attr), 0, 0⟩ : api_Order)) ⟨none, 0, 0, rfl, ⟨rd_nil _ _ _, rfl⟩⟩ (.nil : Reps t_api_Order (Cl.G .i E.B I) h [] [])) ?_))
   intro b105 h hs
   replace hs := (hs.f d1)
   obtain ⟨l107, m108, H⟩ := bind_some H
   refine k_op (aO (e := 51) (bytes := 72) hs (hs.sO d1) m108 ?_)
   intro a109 p110 h hs
   refine st 2 [] ?_
   refine k_retQ ?_
   obtain rfl := Option.some.inj H
   exact ⟨_, by kernel_rfl, I, _, ⟨a109, p110, l107.length, rfl, rfl⟩, hs.pk (.c d0 .n)⟩
  ·refine st 7 [false] (k_op (nS (e := 51) hs .i t_api_Order ([(⟨4, [], (⟨false, false, 0, false⟩ : api_Attr), 0, 0⟩ : api_Order)] : List api_Order) [.int .i64 4, .slice none 0 0, .bool false, .bool false, .int .i64 0, .bool false, .int .i64 0, .int .u8 0] 8 (.agg #[.int .i64 0, .slice none 0 0, .bool false, .bool false, .int .i64 0, .bool false, .int .i64 0, .int .u8 0]) (Reps.cons (T := t_api_Order) (c := [.int .i64 4, .slice none 0 0, .bool false, .bool false, .int .i64 0, .bool false, .int .i64 0, .int .u8 0]) (x := (⟨4, [], (⟨false, false, 0, false⟩ : api_Attr), 0, 0⟩ : api_Order)) ⟨none, 0, 0, rfl, ⟨rd_nil _ _ _, rfl⟩⟩ (.nil : Reps t_api_Order (Cl.G .i E.B I) h [] [])) ?_))
   intro b112 h hs
   replace hs := (hs.f d1)
   obtain ⟨l114, m115, H⟩ := bind_some H
   refine k_op (aO (e := 51) (bytes := 72) hs (hs.sO d1) m115 ?_)
   intro a116 p117 h hs
   refine st 2 [] ?_
   refine k_retQ ?_
   obtain rfl := Option.some.inj H
   exact ⟨_, by kernel_rfl, I, _, ⟨a116, p117, l114.length, rfl, rfl⟩, hs.pk (.c d0 .n)⟩

/-! shutter/shutterlaw18.ReadImages -/
def shutterlaw18_ReadImages.m (K : Nat) (x0 : api_Screen) : Option Bool :=
  ((shutterlaw18_awake.m K).bind fun t26 => bif t26 then ((shutterref10_Few.m K x0).bind fun t27 => bif t27 then ((read_Image.m K x0).bind fun t28 => ((shutterref18_Image.m K x0).bind fun t33 => ((shutterref08_Same.m K (⟨0, (⟨false, false, false⟩ : api_Wcc), t28⟩ : api_Out) (⟨0, (⟨false, false, false⟩ : api_Wcc), t33⟩ : api_Out)).bind fun t38 => (some t38)))) else ((shutterlaw18_awake.m K).bind fun t39 => (some t39))) else ((shutterlaw18_awake.m K).bind fun t40 => (some t40)))

theorem shutterlaw18_ReadImages.calls {B I : Gh} {h : Heap} {K : Nat} {x0 : api_Screen} {a21 : Option Addr} {p22 : Nat} {n23 : Nat} {r : Bool} (H : shutterlaw18_ReadImages.m K x0 = some r)  :
    Fc Tryd.prog 4 #[.agg #[.int .i64 x0.Rows, .int .i64 x0.Cols, .slice a21 n23 p22, .int .i64 x0.Cursor, .bool x0.Locked, .bool x0.Insert]] [rR t_api_Cell .b a21 p22 n23 x0.Cells, rG] B I h (fun v L => v = .bool r ∧ L = []) := by
 refine fc_of fun E hs => ?_
 unfold shutterlaw18_ReadImages.m at H
 obtain rfl := hs.nR d0
 refine fn_of (args := [.agg #[.int .i64 x0.Rows, .int .i64 x0.Cols, .slice a21 x0.Cells.length p22, .int .i64 x0.Cursor, .bool x0.Locked, .bool x0.Insert]]) (rs := [.tmp 2]) (N := 18) Tryd.func4 rfl rfl rfl rfl ?_
 refine st 2 [] (k_op (nB hs [.int .i64 x0.Rows, .int .i64 x0.Cols, .slice a21 x0.Cells.length p22, .int .i64 x0.Cursor, .bool x0.Locked, .bool x0.Insert] ?_))
 intro b25 h hs
 obtain ⟨hk, bk⟩ := hs.call tk0 (.c (gK d2) .n)
 refine st 5 [] (k_call H (fun _ m => shutterlaw18_awake.calls m hk) ?_)
 rintro t26 _ h H ⟨I, _, ⟨rfl, rfl⟩, hk⟩
 replace hs := bk hk ct0 rfl
 cases t26
 ·rw [cond_false] at H
  obtain ⟨hk, bk⟩ := hs.call tk0 (.c (gK d2) .n)
  refine st 10 [true] (k_call H (fun _ m => shutterlaw18_awake.calls m hk) ?_)
  rintro t40 _ h H ⟨I, _, ⟨rfl, rfl⟩, hk⟩
  replace hs := bk hk ct0 rfl
  refine st 2 [] ?_
  refine k_retQ ?_
  obtain rfl := Option.some.inj H
  exact ⟨_, by kernel_rfl, I, _, ⟨rfl, rfl⟩, hs.pk .n⟩
 ·rw [cond_true] at H
  refine st 2 [] (k_op (lN (hs.bl d0) 0 6 ?_))
  obtain ⟨hk, bk⟩ := hs.call tk0 (.c (qB d1) .n)
  refine k_call H (fun _ m => shutterref10_Few.calls m hk) ?_
  rintro t27 _ h H ⟨I, _, ⟨rfl, rfl⟩, hk⟩
  replace hs := bk hk ct0 rfl
  cases t27
  ·rw [cond_false] at H
   obtain ⟨hk, bk⟩ := hs.call tk0 (.c (gK d2) .n)
   refine st 6 [true] (k_call H (fun _ m => shutterlaw18_awake.calls m hk) ?_)
   rintro t39 _ h H ⟨I, _, ⟨rfl, rfl⟩, hk⟩
   replace hs := bk hk ct0 rfl
   refine st 2 [] ?_
   refine k_retQ ?_
   obtain rfl := Option.some.inj H
   exact ⟨_, by kernel_rfl, I, _, ⟨rfl, rfl⟩, hs.pk .n⟩
  ·rw [cond_true] at H
   refine st 6 [false] ?_
   obtain ⟨hs0, bk0⟩ := hs.call tk0 (.c (qL d0) (.c (qB d1) .n))
   have hs := hs0
   refine k_regD hs0 8 ?_
   refine aG 0 rfl hs.keep (lls hs0 d0 0 6 rfl) (nmL hs0 d0) ?_
   refine aG 3 rfl hs.keep (lls hs0 d0 0 6 rfl) (nmL hs0 d0) ?_
   obtain ⟨hk, bk⟩ := hs.call tk0 (.c (qB d1) .n)
   refine aO1 1 rfl (o_call H (fun _ m => read_Image.calls m hk) ?_)
   rintro t28 _ h H ⟨I, _, ⟨a29, p30, n31, rfl, rfl⟩, hk⟩
   replace hs := bk hk ct1 rfl
   obtain rfl := hs.nO d0
   refine ⟨hs.keep, ?_⟩
   refine aRun [2] 4 hs.keep ?_
   obtain ⟨hk, bk⟩ := hs.call tk0 (.c (qB d2) .n)
   refine aO1 4 rfl (o_call H (fun _ m => shutterref18_Image.calls m hk) ?_)
   rintro t33 _ h H ⟨I, _, ⟨a34, p35, n36, rfl, rfl⟩, hk⟩
   replace hs := bk hk ct1 rfl
   obtain rfl := hs.nO d0
   refine ⟨hs.keep, ?_⟩
   refine aRun [5] 2 hs.keep ?_
   obtain ⟨hk, bk⟩ := hs.call tk0 (.c (qO d1) (.c (qO d0) .n))
   refine aO1 6 rfl (o_call H (fun _ m => shutterref08_Same.calls m hk) ?_)
   rintro t38 _ h H ⟨I, _, ⟨rfl, rfl⟩, hk⟩
   replace hs := bk hk ct0 rfl
   refine ⟨hs.keep, ?_⟩
   refine aRun [7] 0 hs.keep ?_
   replace hs := hs.pk (.c d0 (.c d0 .n))
   replace hs := bk0 hs ct2 rfl
   refine aEnd ?_
   refine k_retQ ?_
   obtain rfl := Option.some.inj H
   exact ⟨_, by kernel_rfl, I, _, ⟨rfl, rfl⟩, hs.pk .n⟩

/-! shutter/shutterref10.Copy -/
def shutterref10_Copy.m (x0 : api_Screen) : Option api_Screen :=
  ((app [] x0.Cells).bind fun l29 => (some (⟨x0.Rows, x0.Cols, l29, x0.Cursor, x0.Locked, x0.Insert⟩ : api_Screen)))

theorem shutterref10_Copy.calls {B I : Gh} {h : Heap} {x0 : api_Screen} {a21 : Option Addr} {p22 : Nat} {n23 : Nat} {r : api_Screen} (H : shutterref10_Copy.m x0 = some r)  :
    Fc Tryd.prog 21 #[.agg #[.int .i64 x0.Rows, .int .i64 x0.Cols, .slice a21 n23 p22, .int .i64 x0.Cursor, .bool x0.Locked, .bool x0.Insert]] [rR t_api_Cell .b a21 p22 n23 x0.Cells] B I h (fun v L => ∃ (a34 : Option Addr) (p35 : Nat) (n36 : Nat), v = .agg #[.int .i64 r.Rows, .int .i64 r.Cols, .slice a34 n36 p35, .int .i64 r.Cursor, .bool r.Locked, .bool r.Insert] ∧ L = [rO t_api_Cell .i a34 p35 n36 r.Cells]) := by
 refine fc_of fun E hs => ?_
 unfold shutterref10_Copy.m at H
 obtain rfl := hs.nR d0
 refine fn_of2 (args := [.agg #[.int .i64 x0.Rows, .int .i64 x0.Cols, .slice a21 x0.Cells.length p22, .int .i64 x0.Cursor, .bool x0.Locked, .bool x0.Insert]]) (rs := [.cell 2 24]) (N := 9) Tryd.func21 rfl rfl rfl rfl ?_
 refine st 2 [] (k_op (nB hs [.int .i64 x0.Rows, .int .i64 x0.Cols, .slice a21 x0.Cells.length p22, .int .i64 x0.Cursor, .bool x0.Locked, .bool x0.Insert] ?_))
 intro b25 h hs
 refine k_op (nA hs [.int .i64 0, .int .i64 0, .slice none 0 0, .int .i64 0, .bool false, .bool false] (.agg #[.int .i64 0, .int .i64 0, .slice none 0 0, .int .i64 0, .bool false, .bool false]) ?_)
 intro b26 h hs
 refine st 3 [] (k_op (nS (e := 83) hs .i t_api_Cell ([] : List api_Cell) [] 6 (.agg #[.bool false, .bool false, .bool false, .int .i64 0, .bool false, .int .u8 0]) (.nil : Reps t_api_Cell (Cl.G .i E.B I) h [] []) ?_))
 intro b27 h hs
 refine st 1 [] (k_op (lB (hs.bl d2) 2 rfl ?_))
 obtain ⟨l29, m30, H⟩ := bind_some H
 refine k_op (aO (e := 83) (bytes := 40) hs ((hs.sR d3).flat (fun r => r)) m30 ?_)
 intro a31 p32 h hs
 refine st 1 [] (k_op (sB (v := .slice a31 l29.length p32) (hs.f d2) cw2 ?_))
 intro h hs
 refine st 3 [] (k_op (lN (hs.bl d0) 0 6 ?_))
 refine k_op (sN (hs.f d2) 0 [.int .i64 x0.Rows, .int .i64 x0.Cols, .slice a31 l29.length p32, .int .i64 x0.Cursor, .bool x0.Locked, .bool x0.Insert] [.int .i64 x0.Rows, .int .i64 x0.Cols, .slice a31 l29.length p32, .int .i64 x0.Cursor, .bool x0.Locked, .bool x0.Insert] (ones_of rfl) ?_)
 intro h hs
 refine st 1 [] ?_
 refine k_retQ ?_
 obtain rfl := Option.some.inj H
 exact ⟨[.agg #[.int .i64 x0.Rows, .int .i64 x0.Cols, .slice a31 l29.length p32, .int .i64 x0.Cursor, .bool x0.Locked, .bool x0.Insert]], (.cons (.agg (by kernel_rfl) (by kernel_rfl) (by kernel_rfl) ((hs.bl d0).seg_ 0 6 (Nat.le_of_ble_eq_true rfl))) .nil), I, _, ⟨a31, p32, l29.length, rfl, rfl⟩, hs.pk (.c d2 .n)⟩

/-! shutter/shutterref10.Same -/
def shutterref10_Same.l1.m (K : Nat) (x0 : api_Screen) (x1 : api_Screen) : Nat → Int → Option (Bool ⊕ (Unit))
  | 0, _ => none
  | k + 1, x37 => (if x37 < (x0.Cells.length : Int) then (if 0 ≤ x37 then (if x37 < (x1.Cells.length : Int) then (bif (((at_ x0.Cells x37).Field == (at_ x1.Cells x37).Field) && (((((at_ x0.Cells x37).Attr).Protected == ((at_ x1.Cells x37).Attr).Protected) && ((((at_ x0.Cells x37).Attr).Numeric == ((at_ x1.Cells x37).Attr).Numeric) && ((((at_ x0.Cells x37).Attr).Show == ((at_ x1.Cells x37).Attr).Show) && ((((at_ x0.Cells x37).Attr).Modified == ((at_ x1.Cells x37).Attr).Modified) && true)))) && (((at_ x0.Cells x37).Char == (at_ x1.Cells x37).Char) && true))) then (shutterref10_Same.l1.m K x0 x1 k (w64 (x37 + 1))) else (some (Sum.inl false))) else none) else none) else (some (Sum.inr ())))
def shutterref10_Same.m (K : Nat) (x0 : api_Screen) (x1 : api_Screen) : Option Bool :=
  (if x0.Rows = x1.Rows then (if x0.Cols = x1.Cols then (if x0.Cursor = x1.Cursor then (bif (x0.Locked != x1.Locked) then (some false) else (bif (x0.Insert != x1.Insert) then (some false) else (if (x0.Cells.length : Int) = (x1.Cells.length : Int) then ((shutterref10_Same.l1.m K x0 x1 K 0).bind fun s38 => match s38 with | .inl q => (some q) | .inr _ => (some true)) else (some false)))) else (some false)) else (some false)) else (some false))

theorem shutterref10_Same.calls {B I : Gh} {h : Heap} {K : Nat} {x0 : api_Screen} {x1 : api_Screen} {a21 : Option Addr} {p22 : Nat} {n23 : Nat} {a25 : Option Addr} {p26 : Nat} {n27 : Nat} {r : Bool} (H : shutterref10_Same.m K x0 x1 = some r)  :
    Fc Tryd.prog 22 #[.agg #[.int .i64 x0.Rows, .int .i64 x0.Cols, .slice a21 n23 p22, .int .i64 x0.Cursor, .bool x0.Locked, .bool x0.Insert], .agg #[.int .i64 x1.Rows, .int .i64 x1.Cols, .slice a25 n27 p26, .int .i64 x1.Cursor, .bool x1.Locked, .bool x1.Insert]] [rR t_api_Cell .b a21 p22 n23 x0.Cells, rR t_api_Cell .b a25 p26 n27 x1.Cells] B I h (fun v L => v = .bool r ∧ L = []) := by
 refine fc_of fun E hs => ?_
 unfold shutterref10_Same.m at H
 obtain rfl := hs.nR d0
 obtain rfl := hs.nR d1
 refine fn_of (args := [.agg #[.int .i64 x0.Rows, .int .i64 x0.Cols, .slice a21 x0.Cells.length p22, .int .i64 x0.Cursor, .bool x0.Locked, .bool x0.Insert], .agg #[.int .i64 x1.Rows, .int .i64 x1.Cols, .slice a25 x1.Cells.length p26, .int .i64 x1.Cursor, .bool x1.Locked, .bool x1.Insert]]) (rs := [.tmp 4]) (N := 66) Tryd.func22 rfl rfl rfl rfl ?_
 refine st 2 [] (k_op (nB hs [.int .i64 x0.Rows, .int .i64 x0.Cols, .slice a21 x0.Cells.length p22, .int .i64 x0.Cursor, .bool x0.Locked, .bool x0.Insert] ?_))
 intro b29 h hs
 refine k_op (nB hs [.int .i64 x1.Rows, .int .i64 x1.Cols, .slice a25 x1.Cells.length p26, .int .i64 x1.Cursor, .bool x1.Locked, .bool x1.Insert] ?_)
 intro b30 h hs
 refine st 6 [] (k_op (lB (hs.bl d1) 0 rfl ?_))
 refine st 1 [] (k_op (lB (hs.bl d0) 0 rfl ?_))
 refine k_iteN H (fun c31 H => ?_) (fun c31 H => ?_)
 ·refine st 2 [] (k_op (lB (hs.bl d1) 1 rfl ?_))
  refine st 1 [] (k_op (lB (hs.bl d0) 1 rfl ?_))
  refine k_iteN H (fun c32 H => ?_) (fun c32 H => ?_)
  ·refine st 3 [] (k_op (lB (hs.bl d1) 3 rfl ?_))
   refine st 1 [] (k_op (lB (hs.bl d0) 3 rfl ?_))
   refine k_iteN H (fun c33 H => ?_) (fun c33 H => ?_)
   ·refine st 3 [] (k_op (lB (hs.bl d1) 4 rfl ?_))
    refine st 1 [] (k_op (lB (hs.bl d0) 4 rfl ?_))
    refine k_if H (fun c34 H => ?_) (fun c34 H => ?_)
    ·refine st 23 [true] ?_
     refine k_retQ ?_
     obtain rfl := Option.some.inj H
     exact ⟨_, by kernel_rfl, I, _, ⟨rfl, rfl⟩, hs.pk .n⟩
    ·refine st 3 [] (k_op (lB (hs.bl d1) 5 rfl ?_))
     refine st 1 [] (k_op (lB (hs.bl d0) 5 rfl ?_))
     refine k_if H (fun c35 H => ?_) (fun c35 H => ?_)
     ·refine st 16 [true] ?_
      refine k_retQ ?_
      obtain rfl := Option.some.inj H
      exact ⟨_, by kernel_rfl, I, _, ⟨rfl, rfl⟩, hs.pk .n⟩
     ·refine st 3 [] (k_op (lB (hs.bl d1) 2 rfl ?_))
      refine st 2 [] (k_op (lB (hs.bl d0) 2 rfl ?_))
      refine st 1 [] (k_iteN H (fun c36 H => ?_) (fun c36 H => ?_))
      ·refine st 10 [false] ?_
       obtain ⟨s38, m40, HR39⟩ := bind_some H
       refine k_loop 0 (fun k' ρ h => ∃ (x37 : Int) (I : Gh), shutterref10_Same.l1.m K x0 x1 k' x37 = some s38 ∧ Fits [(2, .pointer (some ⟨b29, 0, none⟩)), (3, .pointer (some ⟨b30, 0, none⟩)), (5, .int .i64 x37)] ρ ∧ St E [rR t_api_Cell .b a21 p22 x0.Cells.length x0.Cells, rB b29 [.int .i64 x0.Rows, .int .i64 x0.Cols, .slice a21 x0.Cells.length p22, .int .i64 x0.Cursor, .bool x0.Locked, .bool x0.Insert] 24, rR t_api_Cell .b a25 p26 x1.Cells.length x1.Cells, rB b30 [.int .i64 x1.Rows, .int .i64 x1.Cols, .slice a25 x1.Cells.length p26, .int .i64 x1.Cursor, .bool x1.Locked, .bool x1.Insert] 24] I h) (fun ρ h => ∃ (I : Gh), Sum.inr () = s38 ∧ Fits [] ρ ∧ St E [] I h) K ⟨0, I, m40, ⟨by kernel_rfl, by kernel_rfl, by kernel_rfl, trivial⟩, hs.pk (.c d2 (.c d1 (.c d1 (.c d0 .n))))⟩ ?_ rfl ?_
       ·clear m40 H
        rintro k' ρ h ⟨x37, I, H, hf, hs⟩
        cases k' with
        | zero => cases H
        | succ k =>
         rw [shutterref10_Same.l1.m] at H
         refine k_fits _ hf ?_ rfl
         refine st 5 [] (k_op (lB (hs.bl d1) 2 rfl ?_))
         refine st 1 [] (k_ite H (fun c41 H => ?_) (fun c41 H => ?_))
         ·refine st 6 [true] ?_
          obtain ⟨hs0, bk0⟩ := hs.call tk0 (.c (qL d1) (.c (qB d0) (.c (qL d3) (.c (qB d2) .n))))
          have hs := hs0
          refine k_regD hs0 11 ?_
          refine aRun [0] 10 hs.keep ?_
          refine aL 1 rfl hs.keep (ll hs0 d0 (n := 2) rfl) (nmL hs0 d0) ?_
          obtain ⟨c42, H⟩ := guard_pos H
          refine aRun [2] 8 hs.keep ?_
          refine aP 3 (elemPtr a21 (x37.toNat * 6)) rfl (pI (e := 83) (ik := .i64) (hs.sR d1) c42 c41) hs.keep ?_
          obtain ⟨y44, g43, q45⟩ := (hs0.sR d1).toSl.seg c42 c41
          obtain rfl := t_api_Cell.open_ q45
          refine aG 4 rfl hs.keep g43 (nmR hs0 d1 c42 c41) ?_
          refine aRun [5] 5 hs.keep ?_
          refine aL 6 rfl hs.keep (ll hs0 d2 (n := 2) rfl) (nmL hs0 d2) ?_
          obtain ⟨c46, H⟩ := guard_pos H
          refine aRun [7] 3 hs.keep ?_
          refine aP 8 (elemPtr a25 (x37.toNat * 6)) rfl (pI (e := 83) (ik := .i64) (hs.sR d3) c42 c46) hs.keep ?_
          obtain ⟨y48, g47, q49⟩ := (hs0.sR d3).toSl.seg c42 c46
          obtain rfl := t_api_Cell.open_ q49
          refine aG 9 rfl hs.keep g47 (nmR hs0 d3 c42 c46) ?_
          rcases bool_or (((at_ x0.Cells x37).Field == (at_ x1.Cells x37).Field) && (((((at_ x0.Cells x37).Attr).Protected == ((at_ x1.Cells x37).Attr).Protected) && ((((at_ x0.Cells x37).Attr).Numeric == ((at_ x1.Cells x37).Attr).Numeric) && ((((at_ x0.Cells x37).Attr).Show == ((at_ x1.Cells x37).Attr).Show) && ((((at_ x0.Cells x37).Attr).Modified == ((at_ x1.Cells x37).Attr).Modified) && true)))) && (((at_ x0.Cells x37).Char == (at_ x1.Cells x37).Char) && true))) with c50 | c50
          ·replace H := bif_f c50 H
           refine awp_runv 10 (.bool true) rfl (by kernel_rfl) (by kernel_rfl) (run_bool (run_neAgg (xs := #[.bool ((at_ x0.Cells x37).Field), .bool (((at_ x0.Cells x37).Attr).Protected), .bool (((at_ x0.Cells x37).Attr).Numeric), .int .i64 (((at_ x0.Cells x37).Attr).Show), .bool (((at_ x0.Cells x37).Attr).Modified), .int .u8 ((at_ x0.Cells x37).Char)]) (ys := #[.bool ((at_ x1.Cells x37).Field), .bool (((at_ x1.Cells x37).Attr).Protected), .bool (((at_ x1.Cells x37).Attr).Numeric), .int .i64 (((at_ x1.Cells x37).Attr).Show), .bool (((at_ x1.Cells x37).Attr).Modified), .int .u8 ((at_ x1.Cells x37).Char)]) (by kernel_rfl) (by kernel_rfl) (by kernel_rfl) (eqB_run (b := (((at_ x0.Cells x37).Field == (at_ x1.Cells x37).Field) && (((((at_ x0.Cells x37).Attr).Protected == ((at_ x1.Cells x37).Attr).Protected) && ((((at_ x0.Cells x37).Attr).Numeric == ((at_ x1.Cells x37).Attr).Numeric) && ((((at_ x0.Cells x37).Attr).Show == ((at_ x1.Cells x37).Attr).Show) && ((((at_ x0.Cells x37).Attr).Modified == ((at_ x1.Cells x37).Attr).Modified) && true)))) && (((at_ x0.Cells x37).Char == (at_ x1.Cells x37).Char) && true)))) (by kernel_rfl))) (notB c50)) hs.keep ?_
           replace hs := hs.pk .n
           replace hs := bk0 hs ct0 rfl
           refine aEnd ?_
           refine st 5 [true] ?_
           refine k_retQ (krL ?_)
           obtain rfl := Option.some.inj H
           obtain rfl := Option.some.inj HR39
           exact ⟨_, by kernel_rfl, I, _, ⟨rfl, rfl⟩, hs.pk .n⟩
          ·replace H := bif_t c50 H
           refine awp_runv 10 (.bool false) rfl (by kernel_rfl) (by kernel_rfl) (run_bool (run_neAgg (xs := #[.bool ((at_ x0.Cells x37).Field), .bool (((at_ x0.Cells x37).Attr).Protected), .bool (((at_ x0.Cells x37).Attr).Numeric), .int .i64 (((at_ x0.Cells x37).Attr).Show), .bool (((at_ x0.Cells x37).Attr).Modified), .int .u8 ((at_ x0.Cells x37).Char)]) (ys := #[.bool ((at_ x1.Cells x37).Field), .bool (((at_ x1.Cells x37).Attr).Protected), .bool (((at_ x1.Cells x37).Attr).Numeric), .int .i64 (((at_ x1.Cells x37).Attr).Show), .bool (((at_ x1.Cells x37).Attr).Modified), .int .u8 ((at_ x1.Cells x37).Char)]) (by kernel_rfl) (by kernel_rfl) (by kernel_rfl) (eqB_run (b := (((at_ x0.Cells x37).Field == (at_ x1.Cells x37).Field) && (((((at_ x0.Cells x37).Attr).Protected == ((at_ x1.Cells x37).Attr).Protected) && ((((at_ x0.Cells x37).Attr).Numeric == ((at_ x1.Cells x37).Attr).Numeric) && ((((at_ x0.Cells x37).Attr).Show == ((at_ x1.Cells x37).Attr).Show) && ((((at_ x0.Cells x37).Attr).Modified == ((at_ x1.Cells x37).Attr).Modified) && true)))) && (((at_ x0.Cells x37).Char == (at_ x1.Cells x37).Char) && true)))) (by kernel_rfl))) (notB c50)) hs.keep ?_
           replace hs := hs.pk .n
           replace hs := bk0 hs ct0 rfl
           refine aEnd ?_
           refine st 8 [false] ?_
           exact k_endL ⟨k, Nat.lt_succ_self _, (w64 (x37 + 1)), I, H, ⟨by kernel_rfl, by kernel_rfl, by kernel_rfl, trivial⟩, hs.pk (.c d0 (.c d0 (.c d0 (.c d0 .n))))⟩
         ·refine st 2 [false] ?_
          refine k_out rfl ?_
          obtain rfl := Option.some.inj H
          exact xE ⟨I, rfl, trivial, hs.pk .n⟩
       ·rintro ρ h ⟨I, rfl, hf, hs⟩
        have H := HR39
        try dsimp only at H
        refine k_fits _ hf ?_ rfl
        refine st 4 [] ?_
        refine k_retQ ?_
        obtain rfl := Option.some.inj H
        exact ⟨_, by kernel_rfl, I, _, ⟨rfl, rfl⟩, hs.pk .n⟩
      ·refine st 7 [true] ?_
       refine k_retQ ?_
       obtain rfl := Option.some.inj H
       exact ⟨_, by kernel_rfl, I, _, ⟨rfl, rfl⟩, hs.pk .n⟩
   ·refine st 30 [true] ?_
    refine k_retQ ?_
    obtain rfl := Option.some.inj H
    exact ⟨_, by kernel_rfl, I, _, ⟨rfl, rfl⟩, hs.pk .n⟩
  ·refine st 37 [true] ?_
   refine k_retQ ?_
   obtain rfl := Option.some.inj H
   exact ⟨_, by kernel_rfl, I, _, ⟨rfl, rfl⟩, hs.pk .n⟩
 ·refine st 43 [true] ?_
  refine k_retQ ?_
  obtain rfl := Option.some.inj H
  exact ⟨_, by kernel_rfl, I, _, ⟨rfl, rfl⟩, hs.pk .n⟩

/-! slices.Equal[[]byte,byte] -/
def slices_Equal_bytes.l1.m (K : Nat) (x0 : (List Int)) (x1 : (List Int)) : Nat → Int → Option (Bool ⊕ (Unit))
  | 0, _ => none
  | k + 1, x32 => (letJ (α := Bool → Option (Bool ⊕ (Unit))) (fun (x37 : Bool) => (bif x37 then (if 0 ≤ x32 then (if x32 < (x0.length : Int) then (if x32 < (x1.length : Int) then (if (at_ x0 x32) = (at_ x1 x32) then (slices_Equal_bytes.l1.m K x0 x1 k (w64 (x32 + 1))) else (some (Sum.inl false))) else none) else none) else none) else (some (Sum.inr ())))) fun (j38 : Bool → Option (Bool ⊕ (Unit))) => (if x32 < (x0.length : Int) then (j38 true) else (j38 false)))
def slices_Equal_bytes.m (K : Nat) (x0 : (List Int)) (x1 : (List Int)) : Option Bool :=
  (if (x0.length : Int) = (x1.length : Int) then ((slices_Equal_bytes.l1.m K x0 x1 K 0).bind fun s33 => match s33 with | .inl q => (some q) | .inr _ => (some true)) else (some false))

theorem slices_Equal_bytes.calls {G : Gh} {K : Nat} {x0 : (List Int)} {x1 : (List Int)} {a21 : Option Addr} {p22 : Nat} {n23 : Nat} {a25 : Option Addr} {p26 : Nat} {n27 : Nat} {h : Heap} {r : Bool} (H : slices_Equal_bytes.m K x0 x1 = some r)  (s29 : Sn (tInt .u8) G h a21 p22 n23 x0) (s30 : Sn (tInt .u8) G h a25 p26 n27 x1) :
    Ret Tryd.prog 50 #[.slice a21 n23 p22, .slice a25 n27 p26] h (fun v h' => .bool r = v ∧ h' = h) := by
 unfold slices_Equal_bytes.m at H
 obtain rfl := s29.len.symm
 obtain rfl := s30.len.symm
 refine fn_of (args := [.slice a21 x0.length p22, .slice a25 x1.length p26]) (rs := [.tmp 4]) (N := 26) Tryd.func50 rfl rfl rfl rfl ?_
 refine st 11 [] (k_iteN H (fun c31 H => ?_) (fun c31 H => ?_))
 ·refine st 11 [false] ?_
  obtain ⟨s33, m35, HR34⟩ := bind_some H
  refine k_loop 0 (fun k' ρ h1 => ∃ (x32 : Int), slices_Equal_bytes.l1.m K x0 x1 k' x32 = some s33 ∧ Fits [(0, .slice a21 x0.length p22), (1, .slice a25 x1.length p26), (12, .int .i64 (x0.length : Int)), (13, .int .i64 x32)] ρ ∧ h = h1) (fun ρ h1 => Sum.inr () = s33 ∧ Fits [] ρ ∧ h = h1) K ⟨0, m35, ⟨by kernel_rfl, by kernel_rfl, by kernel_rfl, by kernel_rfl, trivial⟩, rfl⟩ ?_ rfl ?_
  ·clear m35 H
   rintro k' ρ h1 ⟨x32, H, hf, rfl⟩
   cases k' with
   | zero => cases H
   | succ k =>
    rw [slices_Equal_bytes.l1.m] at H
    refine k_fits _ hf ?_ rfl
    refine st 1 [] ?_
    obtain ⟨j38, e43, H⟩ := letJ_some H
    refine k_join (fun ρ h1 => ∃ (x37 : Bool), j38 x37 = some s33 ∧ Fits [(0, .slice a21 x0.length p22), (1, .slice a25 x1.length p26), (12, .int .i64 (x0.length : Int)), (13, .int .i64 x32), (14, .bool x37)] ρ ∧ h = h1) ?_ ?_
    ·refine st 1 [] (k_ite H (fun c36 H => ?_) (fun c36 H => ?_))
     ·refine st 1 [] ?_
      exact k_end ⟨true, H, ⟨by kernel_rfl, by kernel_rfl, by kernel_rfl, by kernel_rfl, by kernel_rfl, trivial⟩, rfl⟩
     ·refine st 1 [] ?_
      exact k_end ⟨false, H, ⟨by kernel_rfl, by kernel_rfl, by kernel_rfl, by kernel_rfl, by kernel_rfl, trivial⟩, rfl⟩
    ·clear H
     rintro ρ h1 ⟨x37, H, hf, rfl⟩
     refine k_fits _ hf ?_ rfl
     subst e43
     try dsimp only at H
     cases x37
     ·rw [cond_false] at H
      refine st 2 [false] ?_
      refine k_out rfl ?_
      obtain rfl := Option.some.inj H
      exact xE ⟨rfl, trivial, rfl⟩
     ·rw [cond_true] at H
      refine st 11 [true] ?_
      refine k_regP 9 ?_
      obtain ⟨c39, H⟩ := guard_pos H
      obtain ⟨c40, H⟩ := guard_pos H
      refine aRun [0, 1] 7 Keep.refl ?_
      refine aP 2 (elemPtr a21 (x32.toNat * 1)) rfl (pI (e := 5) (ik := .i64) s29 c39 c40) Keep.refl ?_
      refine aL 3 rfl Keep.refl (s29.cell1 c39 c40) (fun _ _ x => x) ?_
      obtain ⟨c41, H⟩ := guard_pos H
      refine aRun [4, 5] 3 Keep.refl ?_
      refine aP 6 (elemPtr a25 (x32.toNat * 1)) rfl (pI (e := 5) (ik := .i64) s30 c39 c41) Keep.refl ?_
      refine aL 7 rfl Keep.refl (s30.cell1 c39 c41) (fun _ _ x => x) ?_
      by_cases c42 : (at_ x0 x32) = (at_ x1 x32)
      ·rw [if_pos c42] at H
       refine aP 8 (.bool false) rfl (pr_bool (by kernel_rfl) (neF c42)) Keep.refl ?_
       refine aEnd ?_
       refine st 7 [false] ?_
       exact k_endL ⟨k, Nat.lt_succ_self _, (w64 (x32 + 1)), H, ⟨by kernel_rfl, by kernel_rfl, by kernel_rfl, by kernel_rfl, trivial⟩, rfl⟩
      ·rw [if_neg c42] at H
       refine aP 8 (.bool true) rfl (pr_bool (by kernel_rfl) (neT c42)) Keep.refl ?_
       refine aEnd ?_
       refine st 5 [true] ?_
       refine k_retQ (krL ?_)
       obtain rfl := Option.some.inj H
       obtain rfl := Option.some.inj HR34
       exact ⟨_, by kernel_rfl, rfl, rfl⟩
  ·rintro ρ h1 ⟨rfl, hf, rfl⟩
   have H := HR34
   try dsimp only at H
   refine k_fits _ hf ?_ rfl
   refine st 4 [] ?_
   refine k_retQ ?_
   obtain rfl := Option.some.inj H
   exact ⟨_, by kernel_rfl, rfl, rfl⟩
 ·refine st 6 [true] ?_
  refine k_retQ ?_
  obtain rfl := Option.some.inj H
  exact ⟨_, by kernel_rfl, rfl, rfl⟩

/-! shutter/input.Same$1 -/
def input_Same_1.m (K : Nat) (x0 : api_Entry) (x1 : api_Entry) : Option Bool :=
  (if x0.Addr = x1.Addr then ((slices_Equal_bytes.m K x0.Text x1.Text).bind fun t32 => (some t32)) else (some false))

theorem input_Same_1.calls {B I : Gh} {h : Heap} {K : Nat} {x0 : api_Entry} {x1 : api_Entry} {a21 : Option Addr} {p22 : Nat} {n23 : Nat} {a25 : Option Addr} {p26 : Nat} {n27 : Nat} {r : Bool} (H : input_Same_1.m K x0 x1 = some r)  :
    Fc Tryd.prog 49 #[.agg #[.int .i64 x0.Addr, .slice a21 n23 p22], .agg #[.int .i64 x1.Addr, .slice a25 n27 p26]] [rR (tInt .u8) .b a21 p22 n23 x0.Text, rR (tInt .u8) .b a25 p26 n27 x1.Text] B I h (fun v L => v = .bool r ∧ L = []) := by
 refine fc_of fun E hs => ?_
 unfold input_Same_1.m at H
 obtain rfl := hs.nR d0
 obtain rfl := hs.nR d1
 refine fn_of (args := [.agg #[.int .i64 x0.Addr, .slice a21 x0.Text.length p22], .agg #[.int .i64 x1.Addr, .slice a25 x1.Text.length p26]]) (rs := [.tmp 4]) (N := 17) Tryd.func49 rfl rfl rfl rfl ?_
 refine st 2 [] (k_op (nB hs [.int .i64 x0.Addr, .slice a21 x0.Text.length p22] ?_))
 intro b29 h hs
 refine k_op (nB hs [.int .i64 x1.Addr, .slice a25 x1.Text.length p26] ?_)
 intro b30 h hs
 refine st 5 [] (k_op (lB (hs.bl d1) 0 rfl ?_))
 refine st 1 [] (k_op (lB (hs.bl d0) 0 rfl ?_))
 refine k_ite H (fun c31 H => ?_) (fun c31 H => ?_)
 ·refine st 2 [] (k_op (lB (hs.bl d1) 1 rfl ?_))
  refine st 1 [] (k_op (lB (hs.bl d0) 1 rfl ?_))
  refine k_call H (fun _ m => slices_Equal_bytes.calls m (hs.sR d2) (hs.sR d3)) ?_
  rintro t32 _ _ H ⟨rfl, rfl⟩
  refine st 3 [] ?_
  refine k_retQ ?_
  obtain rfl := Option.some.inj H
  exact ⟨_, by kernel_rfl, I, _, ⟨rfl, rfl⟩, hs.pk .n⟩
 ·refine st 9 [] ?_
  refine k_retQ ?_
  obtain rfl := Option.some.inj H
  exact ⟨_, by kernel_rfl, I, _, ⟨rfl, rfl⟩, hs.pk .n⟩

/-! slices.EqualFunc[[]shutter/api.Entry,[]shutter/api.Entry,shutter/api.Entry,shutter/api.Entry] -/
def slices_EqualFunc_api_Entry__input_Same_1.l1.m (K : Nat) (x0 : (List api_Entry)) (x1 : (List api_Entry)) : Nat → Int → Option (Bool ⊕ (Unit))
  | 0, _ => none
  | k + 1, x30 => (letJ (α := Bool → Option (Bool ⊕ (Unit))) (fun (x35 : Bool) => (bif x35 then (if 0 ≤ x30 then (if x30 < (x0.length : Int) then (if x30 < (x1.length : Int) then ((input_Same_1.m K (at_ x0 x30) (at_ x1 x30)).bind fun t58 => bif t58 then (slices_EqualFunc_api_Entry__input_Same_1.l1.m K x0 x1 k (w64 (x30 + 1))) else (some (Sum.inl false))) else none) else none) else none) else (some (Sum.inr ())))) fun (j36 : Bool → Option (Bool ⊕ (Unit))) => (if x30 < (x0.length : Int) then (j36 true) else (j36 false)))
def slices_EqualFunc_api_Entry__input_Same_1.m (K : Nat) (x0 : (List api_Entry)) (x1 : (List api_Entry)) : Option Bool :=
  (if (x0.length : Int) = (x1.length : Int) then ((slices_EqualFunc_api_Entry__input_Same_1.l1.m K x0 x1 K 0).bind fun s31 => match s31 with | .inl q => (some q) | .inr _ => (some true)) else (some false))

theorem slices_EqualFunc_api_Entry__input_Same_1.calls {B I : Gh} {h : Heap} {K : Nat} {x0 : (List api_Entry)} {x1 : (List api_Entry)} {a21 : Option Addr} {p22 : Nat} {n23 : Nat} {a25 : Option Addr} {p26 : Nat} {n27 : Nat} {r : Bool} (H : slices_EqualFunc_api_Entry__input_Same_1.m K x0 x1 = some r)  :
    Fc Tryd.prog 48 #[.slice a21 n23 p22, .slice a25 n27 p26, .func (.func 49) #[] #[]] [rR t_api_Entry .b a21 p22 n23 x0, rR t_api_Entry .b a25 p26 n27 x1] B I h (fun v L => v = .bool r ∧ L = []) := by
 refine fc_of fun E hs => ?_
 unfold slices_EqualFunc_api_Entry__input_Same_1.m at H
 obtain rfl := hs.nR d0
 obtain rfl := hs.nR d1
 refine fn_of (args := [.slice a21 x0.length p22, .slice a25 x1.length p26, .func (.func 49) #[] #[]]) (rs := [.tmp 6]) (N := 32) Tryd.func48 rfl rfl rfl rfl ?_
 refine st 11 [] (k_iteN H (fun c29 H => ?_) (fun c29 H => ?_))
 ·refine st 11 [false] ?_
  obtain ⟨s31, m33, HR32⟩ := bind_some H
  refine k_loop 0 (fun k' ρ h => ∃ (x30 : Int) (I : Gh), slices_EqualFunc_api_Entry__input_Same_1.l1.m K x0 x1 k' x30 = some s31 ∧ Fits [(1, .slice a25 x1.length p26), (2, .func (.func 49) #[] #[]), (15, .slice a21 x0.length p22), (16, .int .i64 (x0.length : Int)), (17, .int .i64 x30)] ρ ∧ St E [rR t_api_Entry .b a25 p26 x1.length x1, rR t_api_Entry .b a21 p22 x0.length x0] I h) (fun ρ h => ∃ (I : Gh), Sum.inr () = s31 ∧ Fits [] ρ ∧ St E [] I h) K ⟨0, I, m33, ⟨by kernel_rfl, by kernel_rfl, by kernel_rfl, by kernel_rfl, by kernel_rfl, trivial⟩, hs.pk (.c d1 (.c d0 .n))⟩ ?_ rfl ?_
  ·clear m33 H
   rintro k' ρ h ⟨x30, I, H, hf, hs⟩
   cases k' with
   | zero => cases H
   | succ k =>
    rw [slices_EqualFunc_api_Entry__input_Same_1.l1.m] at H
    refine k_fits _ hf ?_ rfl
    refine st 1 [] ?_
    obtain ⟨j36, e59, H⟩ := letJ_some H
    refine k_join (fun ρ h => ∃ (x35 : Bool) (I : Gh), j36 x35 = some s31 ∧ Fits [(1, .slice a25 x1.length p26), (2, .func (.func 49) #[] #[]), (15, .slice a21 x0.length p22), (16, .int .i64 (x0.length : Int)), (17, .int .i64 x30), (18, .bool x35)] ρ ∧ St E [rR t_api_Entry .b a25 p26 x1.length x1, rR t_api_Entry .b a21 p22 x0.length x0] I h) ?_ ?_
    ·refine st 1 [] (k_ite H (fun c34 H => ?_) (fun c34 H => ?_))
     ·refine st 1 [] ?_
      exact k_end ⟨true, I, H, ⟨by kernel_rfl, by kernel_rfl, by kernel_rfl, by kernel_rfl, by kernel_rfl, by kernel_rfl, trivial⟩, hs.pk (.c d0 (.c d0 .n))⟩
     ·refine st 1 [] ?_
      exact k_end ⟨false, I, H, ⟨by kernel_rfl, by kernel_rfl, by kernel_rfl, by kernel_rfl, by kernel_rfl, by kernel_rfl, trivial⟩, hs.pk (.c d0 (.c d0 .n))⟩
    ·clear H
     rintro ρ h ⟨x35, I, H, hf, hs⟩
     refine k_fits _ hf ?_ rfl
     subst e59
     try dsimp only at H
     cases x35
     ·rw [cond_false] at H
      refine st 2 [false] ?_
      refine k_out rfl ?_
      obtain rfl := Option.some.inj H
      exact xE ⟨I, rfl, trivial, hs.pk .n⟩
     ·rw [cond_true] at H
      obtain ⟨c37, H⟩ := guard_pos H
      obtain ⟨c38, H⟩ := guard_pos H
      refine st 8 [true] (k_val (elemPtr a21 (x30.toNat * 2)) (pI (e := 53) (ik := .i64) (hs.sR d1) c37 c38) ?_)
      obtain ⟨y40, g39, q41⟩ := (hs.sR d1).toSl.seg c37 c38
      obtain ⟨a42, p43, n44, rfl, q46⟩ := t_api_Entry.open_ q41
      obtain rfl := q46.2
      replace hs := hs.pR q46
      refine k_op (lG g39 ?_)
      refine k_op (nA hs [.int .i64 0, .slice none 0 0] (.agg #[.int .i64 0, .slice none 0 0]) ?_)
      intro b47 h hs
      refine st 1 [] (k_op (sN hs 0 [.int .i64 ((at_ x0 x30).Addr), .slice a42 (((at_ x0 x30).Text).length) p43] [.int .i64 ((at_ x0 x30).Addr), .slice a42 (((at_ x0 x30).Text).length) p43] (ones_of rfl) ?_))
      intro h hs
      obtain ⟨c48, H⟩ := guard_pos H
      refine st 5 [] (k_val (elemPtr a25 (x30.toNat * 2)) (pI (e := 53) (ik := .i64) (hs.sR d2) c37 c48) ?_)
      obtain ⟨y50, g49, q51⟩ := (hs.sR d2).toSl.seg c37 c48
      obtain ⟨a52, p53, n54, rfl, q56⟩ := t_api_Entry.open_ q51
      obtain rfl := q56.2
      replace hs := hs.pR q56
      refine k_op (lG g49 ?_)
      refine k_op (nA hs [.int .i64 0, .slice none 0 0] (.agg #[.int .i64 0, .slice none 0 0]) ?_)
      intro b57 h hs
      refine k_op (sN hs 0 [.int .i64 ((at_ x1 x30).Addr), .slice a52 (((at_ x1 x30).Text).length) p53] [.int .i64 ((at_ x1 x30).Addr), .slice a52 (((at_ x1 x30).Text).length) p53] (ones_of rfl) ?_)
      intro h hs
      refine st 4 [] (k_op (lN (hs.bl d2) 0 2 ?_))
      refine k_op (lN (hs.bl d0) 0 2 ?_)
      obtain ⟨hk, bk⟩ := hs.call tk0 (.c (qB d3) (.c (qB d1) .n))
      refine k_call H (fun _ m => input_Same_1.calls m hk) ?_
      rintro t58 _ h H ⟨I, _, ⟨rfl, rfl⟩, hk⟩
      replace hs := bk hk ct0 rfl
      cases t58
      ·rw [cond_false] at H
       refine st 7 [true] ?_
       refine k_retQ (krL ?_)
       obtain rfl := Option.some.inj H
       obtain rfl := Option.some.inj HR32
       exact ⟨_, by kernel_rfl, I, _, ⟨rfl, rfl⟩, hs.pk .n⟩
      ·rw [cond_true] at H
       refine st 9 [false] ?_
       exact k_endL ⟨k, Nat.lt_succ_self _, (w64 (x30 + 1)), I, H, ⟨by kernel_rfl, by kernel_rfl, by kernel_rfl, by kernel_rfl, by kernel_rfl, trivial⟩, hs.pk (.c d4 (.c d4 .n))⟩
  ·rintro ρ h ⟨I, rfl, hf, hs⟩
   have H := HR32
   try dsimp only at H
   refine k_fits _ hf ?_ rfl
   refine st 4 [] ?_
   refine k_retQ ?_
   obtain rfl := Option.some.inj H
   exact ⟨_, by kernel_rfl, I, _, ⟨rfl, rfl⟩, hs.pk .n⟩
 ·refine st 6 [true] ?_
  refine k_retQ ?_
  obtain rfl := Option.some.inj H
  exact ⟨_, by kernel_rfl, I, _, ⟨rfl, rfl⟩, hs.pk .n⟩

/-! shutter/input.Same -/
def input_Same.m (K : Nat) (x0 : api_In) (x1 : api_In) : Option Bool :=
  (if x0.Aid = x1.Aid then (if x0.Cursor = x1.Cursor then ((slices_EqualFunc_api_Entry__input_Same_1.m K x0.Fields x1.Fields).bind fun t33 => (some t33)) else (some false)) else (some false))

theorem input_Same.calls {B I : Gh} {h : Heap} {K : Nat} {x0 : api_In} {x1 : api_In} {a21 : Option Addr} {p22 : Nat} {n23 : Nat} {a25 : Option Addr} {p26 : Nat} {n27 : Nat} {r : Bool} (H : input_Same.m K x0 x1 = some r)  :
    Fc Tryd.prog 23 #[.agg #[.int .u8 x0.Aid, .int .i64 x0.Cursor, .slice a21 n23 p22], .agg #[.int .u8 x1.Aid, .int .i64 x1.Cursor, .slice a25 n27 p26]] [rR t_api_Entry .b a21 p22 n23 x0.Fields, rR t_api_Entry .b a25 p26 n27 x1.Fields] B I h (fun v L => v = .bool r ∧ L = []) := by
 refine fc_of fun E hs => ?_
 unfold input_Same.m at H
 obtain rfl := hs.nR d0
 obtain rfl := hs.nR d1
 refine fn_of (args := [.agg #[.int .u8 x0.Aid, .int .i64 x0.Cursor, .slice a21 x0.Fields.length p22], .agg #[.int .u8 x1.Aid, .int .i64 x1.Cursor, .slice a25 x1.Fields.length p26]]) (rs := [.tmp 4]) (N := 24) Tryd.func23 rfl rfl rfl rfl ?_
 refine st 2 [] (k_op (nB hs [.int .u8 x0.Aid, .int .i64 x0.Cursor, .slice a21 x0.Fields.length p22] ?_))
 intro b29 h hs
 refine k_op (nB hs [.int .u8 x1.Aid, .int .i64 x1.Cursor, .slice a25 x1.Fields.length p26] ?_)
 intro b30 h hs
 refine st 5 [] (k_op (lB (hs.bl d1) 0 rfl ?_))
 refine st 1 [] (k_op (lB (hs.bl d0) 0 rfl ?_))
 refine k_ite H (fun c31 H => ?_) (fun c31 H => ?_)
 ·refine st 2 [] (k_op (lB (hs.bl d1) 1 rfl ?_))
  refine st 1 [] (k_op (lB (hs.bl d0) 1 rfl ?_))
  refine k_ite H (fun c32 H => ?_) (fun c32 H => ?_)
  ·refine st 3 [] (k_op (lB (hs.bl d1) 2 rfl ?_))
   refine st 1 [] (k_op (lB (hs.bl d0) 2 rfl ?_))
   obtain ⟨hk, bk⟩ := hs.call tk0 (.c (qB d2) (.c (qB d3) .n))
   refine k_call H (fun _ m => slices_EqualFunc_api_Entry__input_Same_1.calls m hk) ?_
   rintro t33 _ h H ⟨I, _, ⟨rfl, rfl⟩, hk⟩
   replace hs := bk hk ct0 rfl
   refine st 3 [] ?_
   refine k_retQ ?_
   obtain rfl := Option.some.inj H
   exact ⟨_, by kernel_rfl, I, _, ⟨rfl, rfl⟩, hs.pk .n⟩
  ·refine st 10 [] ?_
   refine k_retQ ?_
   obtain rfl := Option.some.inj H
   exact ⟨_, by kernel_rfl, I, _, ⟨rfl, rfl⟩, hs.pk .n⟩
 ·refine st 16 [] ?_
  refine k_retQ ?_
  obtain rfl := Option.some.inj H
  exact ⟨_, by kernel_rfl, I, _, ⟨rfl, rfl⟩, hs.pk .n⟩

/-! shutter/shutterlaw18.ReadAlone -/
def shutterlaw18_ReadAlone.m (K : Nat) (x0 : api_Screen) (x1 : Int) (x2 : Bool) (x3 : Bool) : Option Bool :=
  ((shutterlaw18_awake.m K).bind fun t26 => bif t26 then ((shutterref10_Few.m K x0).bind fun t27 => bif t27 then ((shutterref10_Copy.m x0).bind fun t28 => ((read_Modified.m K x0 x1).bind fun t34 => ((read_Modified.m K (⟨t28.Rows, t28.Cols, t28.Cells, t28.Cursor, x2, x3⟩ : api_Screen) x1).bind fun t42 => (if t34.2 = GoErr.nil then (if t42.2 = GoErr.nil then ((input_Same.m K t34.1 t42.1).bind fun t56 => bif t56 then ((read_Image.m K x0).bind fun t57 => ((read_Image.m K (⟨t28.Rows, t28.Cols, t28.Cells, t28.Cursor, x2, x3⟩ : api_Screen)).bind fun t62 => ((shutterref08_Same.m K (⟨0, (⟨false, false, false⟩ : api_Wcc), t57⟩ : api_Out) (⟨0, (⟨false, false, false⟩ : api_Wcc), t62⟩ : api_Out)).bind fun t67 => (some t67)))) else (some false)) else (some false)) else (if t42.2 = GoErr.nil then (some false) else ((input_Same.m K t34.1 t42.1).bind fun t71 => bif t71 then ((read_Image.m K x0).bind fun t72 => ((read_Image.m K (⟨t28.Rows, t28.Cols, t28.Cells, t28.Cursor, x2, x3⟩ : api_Screen)).bind fun t77 => ((shutterref08_Same.m K (⟨0, (⟨false, false, false⟩ : api_Wcc), t72⟩ : api_Out) (⟨0, (⟨false, false, false⟩ : api_Wcc), t77⟩ : api_Out)).bind fun t82 => (some t82)))) else (some false))))))) else ((shutterlaw18_awake.m K).bind fun t83 => (some t83))) else ((shutterlaw18_awake.m K).bind fun t84 => (some t84)))

theorem shutterlaw18_ReadAlone.calls {B I : Gh} {h : Heap} {K : Nat} {x0 : api_Screen} {x1 : Int} {x2 : Bool} {x3 : Bool} {a21 : Option Addr} {p22 : Nat} {n23 : Nat} {r : Bool} (H : shutterlaw18_ReadAlone.m K x0 x1 x2 x3 = some r)  :
    Fc Tryd.prog 6 #[.agg #[.int .i64 x0.Rows, .int .i64 x0.Cols, .slice a21 n23 p22, .int .i64 x0.Cursor, .bool x0.Locked, .bool x0.Insert], .int .u8 x1, .bool x2, .bool x3] [rR t_api_Cell .b a21 p22 n23 x0.Cells, rG] B I h (fun v L => v = .bool r ∧ L = []) := by
 refine fc_of fun E hs => ?_
 unfold shutterlaw18_ReadAlone.m at H
 obtain rfl := hs.nR d0
 refine fn_of (args := [.agg #[.int .i64 x0.Rows, .int .i64 x0.Cols, .slice a21 x0.Cells.length p22, .int .i64 x0.Cursor, .bool x0.Locked, .bool x0.Insert], .int .u8 x1, .bool x2, .bool x3]) (rs := [.tmp 8]) (N := 59) Tryd.func6 rfl rfl rfl rfl ?_
 refine st 2 [] (k_op (nB hs [.int .i64 x0.Rows, .int .i64 x0.Cols, .slice a21 x0.Cells.length p22, .int .i64 x0.Cursor, .bool x0.Locked, .bool x0.Insert] ?_))
 intro b25 h hs
 obtain ⟨hk, bk⟩ := hs.call tk0 (.c (gK d2) .n)
 refine st 5 [] (k_call H (fun _ m => shutterlaw18_awake.calls m hk) ?_)
 rintro t26 _ h H ⟨I, _, ⟨rfl, rfl⟩, hk⟩
 replace hs := bk hk ct0 rfl
 cases t26
 ·rw [cond_false] at H
  obtain ⟨hk, bk⟩ := hs.call tk0 (.c (gK d2) .n)
  refine st 10 [true] (k_call H (fun _ m => shutterlaw18_awake.calls m hk) ?_)
  rintro t84 _ h H ⟨I, _, ⟨rfl, rfl⟩, hk⟩
  replace hs := bk hk ct0 rfl
  refine st 2 [] ?_
  refine k_retQ ?_
  obtain rfl := Option.some.inj H
  exact ⟨_, by kernel_rfl, I, _, ⟨rfl, rfl⟩, hs.pk .n⟩
 ·rw [cond_true] at H
  refine st 2 [] (k_op (lN (hs.bl d0) 0 6 ?_))
  obtain ⟨hk, bk⟩ := hs.call tk0 (.c (qB d1) .n)
  refine k_call H (fun _ m => shutterref10_Few.calls m hk) ?_
  rintro t27 _ h H ⟨I, _, ⟨rfl, rfl⟩, hk⟩
  replace hs := bk hk ct0 rfl
  cases t27
  ·rw [cond_false] at H
   obtain ⟨hk, bk⟩ := hs.call tk0 (.c (gK d2) .n)
   refine st 6 [true] (k_call H (fun _ m => shutterlaw18_awake.calls m hk) ?_)
   rintro t83 _ h H ⟨I, _, ⟨rfl, rfl⟩, hk⟩
   replace hs := bk hk ct0 rfl
   refine st 2 [] ?_
   refine k_retQ ?_
   obtain rfl := Option.some.inj H
   exact ⟨_, by kernel_rfl, I, _, ⟨rfl, rfl⟩, hs.pk .n⟩
  ·rw [cond_true] at H
   refine st 7 [false] (k_op (lN (hs.bl d0) 0 6 ?_))
   obtain ⟨hk, bk⟩ := hs.call tk0 (.c (qB d1) .n)
   refine k_call H (fun _ m => shutterref10_Copy.calls m hk) ?_
   rintro t28 _ h H ⟨I, _, ⟨a29, p30, n31, rfl, rfl⟩, hk⟩
   replace hs := bk hk ct1 rfl
   obtain rfl := hs.nO d0
   refine k_op (nA hs [.int .i64 0, .int .i64 0, .slice none 0 0, .int .i64 0, .bool false, .bool false] (.agg #[.int .i64 0, .int .i64 0, .slice none 0 0, .int .i64 0, .bool false, .bool false]) ?_)
   intro b33 h hs
   refine k_op (sN hs 0 [.int .i64 t28.Rows, .int .i64 t28.Cols, .slice a29 t28.Cells.length p30, .int .i64 t28.Cursor, .bool t28.Locked, .bool t28.Insert] [.int .i64 t28.Rows, .int .i64 t28.Cols, .slice a29 t28.Cells.length p30, .int .i64 t28.Cursor, .bool t28.Locked, .bool t28.Insert] (ones_of rfl) ?_)
   intro h hs
   refine st 5 [] (k_op (sB (v := .bool x2) hs cw4 ?_))
   intro h hs
   refine st 5 [] (k_op (sB (v := .bool x3) hs cw5 ?_))
   intro h hs
   refine st 3 [] (k_op (lN (hs.bl d2) 0 6 ?_))
   obtain ⟨hk, bk⟩ := hs.call tk0 (.c (qB d3) .n)
   refine st 1 [] (k_call H (fun _ m => read_Modified.calls m hk) ?_)
   rintro t34 _ h H ⟨I, _, ⟨a35, p36, n37, v39, rfl, rfl⟩, hk⟩
   replace hs := bk hk ct2 rfl
   obtain rfl := hs.nO d0
   refine st 3 [] (k_op (nA hs [.int .u8 0, .int .i64 0, .slice none 0 0] (.agg #[.int .u8 0, .int .i64 0, .slice none 0 0]) ?_))
   intro b41 h hs
   refine k_op (sN hs 0 [.int .u8 t34.1.Aid, .int .i64 t34.1.Cursor, .slice a35 t34.1.Fields.length p36] [.int .u8 t34.1.Aid, .int .i64 t34.1.Cursor, .slice a35 t34.1.Fields.length p36] (ones_of rfl) ?_)
   intro h hs
   refine st 4 [] (k_op (lN (hs.bl d3) 0 6 ?_))
   obtain ⟨hk, bk⟩ := hs.call tk0 (.c (qO d4) .n)
   refine st 1 [] (k_call H (fun _ m => read_Modified.calls m hk) ?_)
   rintro t42 _ h H ⟨I, _, ⟨a43, p44, n45, v47, rfl, rfl⟩, hk⟩
   replace hs := bk hk ct2 rfl
   obtain rfl := hs.nO d0
   refine st 3 [] (k_op (nA hs [.int .u8 0, .int .i64 0, .slice none 0 0] (.agg #[.int .u8 0, .int .i64 0, .slice none 0 0]) ?_))
   intro b49 h hs
   refine k_op (sN hs 0 [.int .u8 t42.1.Aid, .int .i64 t42.1.Cursor, .slice a43 t42.1.Fields.length p44] [.int .u8 t42.1.Aid, .int .i64 t42.1.Cursor, .slice a43 t42.1.Fields.length p44] (ones_of rfl) ?_)
   intro h hs
   refine st 3 [] ?_
   obtain ⟨hs0, bk0⟩ := hs.call tk0 (.c (xK d5) (.c (xK d2) (.c (qL d3) (.c (qL d0) (.c (qO d4) (.c (qO d1) (.c (qL d8) (.c (qL d6) (.c (qB d9) (.c (qO d7) .n))))))))))
   have hs := hs0
   refine k_regD hs0 20 ?_
   refine aRun [0] 19 hs.keep ?_
   rcases (hs.er d0).cases with ⟨c50, rfl⟩ | ⟨c50, t51, u52, rfl⟩
   ·rw [if_pos c50] at H
    refine aRun [1, 2] 17 hs.keep ?_
    rcases (hs.er d1).cases with ⟨c53, rfl⟩ | ⟨c53, t54, u55, rfl⟩
    ·rw [if_pos c53] at H
     refine aRun [3, 4, 5] 14 hs.keep ?_
     refine aG 6 rfl hs.keep (lls hs0 d2 0 3 rfl) (nmL hs0 d2) ?_
     refine aG 7 rfl hs.keep (lls hs0 d3 0 3 rfl) (nmL hs0 d3) ?_
     obtain ⟨hk, bk⟩ := hs.call tk0 (.c (qB d4) (.c (qB d5) .n))
     refine aO1 8 rfl (o_call H (fun _ m => input_Same.calls m hk) ?_)
     rintro t56 _ h H ⟨I, _, ⟨rfl, rfl⟩, hk⟩
     replace hs := bk hk ct0 rfl
     refine ⟨hs.keep, ?_⟩
     cases t56
     ·rw [cond_false] at H
      refine aRun [9, 10, 11, 12, 13, 14, 15, 16, 17, 18, 19] 0 hs.keep ?_
      replace hs := hs.pk .n
      replace hs := bk0 hs ct0 rfl
      refine aEnd ?_
      refine k_retQ ?_
      obtain rfl := Option.some.inj H
      exact ⟨_, by kernel_rfl, I, _, ⟨rfl, rfl⟩, hs.pk .n⟩
     ·rw [cond_true] at H
      refine aRun [9, 10] 9 hs.keep ?_
      refine aG 11 rfl hs.keep (lls hs0 d6 0 6 rfl) (nmL hs0 d6) ?_
      refine aG 14 rfl hs.keep (lls hs0 d7 0 6 rfl) (nmL hs0 d7) ?_
      obtain ⟨hk, bk⟩ := hs.call tk0 (.c (qB d8) .n)
      refine aO1 12 rfl (o_call H (fun _ m => read_Image.calls m hk) ?_)
      rintro t57 _ h H ⟨I, _, ⟨a58, p59, n60, rfl, rfl⟩, hk⟩
      replace hs := bk hk ct1 rfl
      obtain rfl := hs.nO d0
      refine ⟨hs.keep, ?_⟩
      refine aRun [13] 5 hs.keep ?_
      obtain ⟨hk, bk⟩ := hs.call tk0 (.c (qB d10) .n)
      refine aO1 15 rfl (o_call H (fun _ m => read_Image.calls m hk) ?_)
      rintro t62 _ h H ⟨I, _, ⟨a63, p64, n65, rfl, rfl⟩, hk⟩
      replace hs := bk hk ct1 rfl
      obtain rfl := hs.nO d0
      refine ⟨hs.keep, ?_⟩
      refine aRun [16] 3 hs.keep ?_
      obtain ⟨hk, bk⟩ := hs.call tk0 (.c (qO d1) (.c (qO d0) .n))
      refine aO1 17 rfl (o_call H (fun _ m => shutterref08_Same.calls m hk) ?_)
      rintro t67 _ h H ⟨I, _, ⟨rfl, rfl⟩, hk⟩
      replace hs := bk hk ct0 rfl
      refine ⟨hs.keep, ?_⟩
      refine aRun [18, 19] 0 hs.keep ?_
      replace hs := hs.pk (.c d0 (.c d0 .n))
      replace hs := bk0 hs ct2 rfl
      refine aEnd ?_
      refine k_retQ ?_
      obtain rfl := Option.some.inj H
      exact ⟨_, by kernel_rfl, I, _, ⟨rfl, rfl⟩, hs.pk .n⟩
    ·rw [if_neg c53] at H
     refine aRun [3, 4, 5, 6, 7, 8, 9, 10, 11, 12, 13, 14, 15, 16, 17, 18, 19] 0 hs.keep ?_
     replace hs := hs.pk .n
     replace hs := bk0 hs ct0 rfl
     refine aEnd ?_
     refine k_retQ ?_
     obtain rfl := Option.some.inj H
     exact ⟨_, by kernel_rfl, I, _, ⟨rfl, rfl⟩, hs.pk .n⟩
   ·rw [if_neg c50] at H
    refine aRun [1, 2] 17 hs.keep ?_
    rcases (hs.er d1).cases with ⟨c68, rfl⟩ | ⟨c68, t69, u70, rfl⟩
    ·rw [if_pos c68] at H
     refine aRun [3, 4, 5, 6, 7, 8, 9, 10, 11, 12, 13, 14, 15, 16, 17, 18, 19] 0 hs.keep ?_
     replace hs := hs.pk .n
     replace hs := bk0 hs ct0 rfl
     refine aEnd ?_
     refine k_retQ ?_
     obtain rfl := Option.some.inj H
     exact ⟨_, by kernel_rfl, I, _, ⟨rfl, rfl⟩, hs.pk .n⟩
    ·rw [if_neg c68] at H
     refine aRun [3, 4, 5] 14 hs.keep ?_
     refine aG 6 rfl hs.keep (lls hs0 d2 0 3 rfl) (nmL hs0 d2) ?_
     refine aG 7 rfl hs.keep (lls hs0 d3 0 3 rfl) (nmL hs0 d3) ?_
     obtain ⟨hk, bk⟩ := hs.call tk0 (.c (qB d4) (.c (qB d5) .n))
     refine aO1 8 rfl (o_call H (fun _ m => input_Same.calls m hk) ?_)
     rintro t71 _ h H ⟨I, _, ⟨rfl, rfl⟩, hk⟩
     replace hs := bk hk ct0 rfl
     refine ⟨hs.keep, ?_⟩
     cases t71
     ·rw [cond_false] at H
      refine aRun [9, 10, 11, 12, 13, 14, 15, 16, 17, 18, 19] 0 hs.keep ?_
      replace hs := hs.pk .n
      replace hs := bk0 hs ct0 rfl
      refine aEnd ?_
      refine k_retQ ?_
      obtain rfl := Option.some.inj H
      exact ⟨_, by kernel_rfl, I, _, ⟨rfl, rfl⟩, hs.pk .n⟩
     ·rw [cond_true] at H
      refine aRun [9, 10] 9 hs.keep ?_
      refine aG 11 rfl hs.keep (lls hs0 d6 0 6 rfl) (nmL hs0 d6) ?_
      refine aG 14 rfl hs.keep (lls hs0 d7 0 6 rfl) (nmL hs0 d7) ?_
      obtain ⟨hk, bk⟩ := hs.call tk0 (.c (qB d8) .n)
      refine aO1 12 rfl (o_call H (fun _ m => read_Image.calls m hk) ?_)
      rintro t72 _ h H ⟨I, _, ⟨a73, p74, n75, rfl, rfl⟩, hk⟩
      replace hs := bk hk ct1 rfl
      obtain rfl := hs.nO d0
      refine ⟨hs.keep, ?_⟩
      refine aRun [13] 5 hs.keep ?_
      obtain ⟨hk, bk⟩ := hs.call tk0 (.c (qB d10) .n)
      refine aO1 15 rfl (o_call H (fun _ m => read_Image.calls m hk) ?_)
      rintro t77 _ h H ⟨I, _, ⟨a78, p79, n80, rfl, rfl⟩, hk⟩
      replace hs := bk hk ct1 rfl
      obtain rfl := hs.nO d0
      refine ⟨hs.keep, ?_⟩
      refine aRun [16] 3 hs.keep ?_
      obtain ⟨hk, bk⟩ := hs.call tk0 (.c (qO d1) (.c (qO d0) .n))
      refine aO1 17 rfl (o_call H (fun _ m => shutterref08_Same.calls m hk) ?_)
      rintro t82 _ h H ⟨I, _, ⟨rfl, rfl⟩, hk⟩
      replace hs := bk hk ct0 rfl
      refine ⟨hs.keep, ?_⟩
      refine aRun [18, 19] 0 hs.keep ?_
      replace hs := hs.pk (.c d0 (.c d0 .n))
      replace hs := bk0 hs ct2 rfl
      refine aEnd ?_
      refine k_retQ ?_
      obtain rfl := Option.some.inj H
      exact ⟨_, by kernel_rfl, I, _, ⟨rfl, rfl⟩, hs.pk .n⟩

end Go.Proofs.YtpkcckaaocannaaDoor.Sx
