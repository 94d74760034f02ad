import Derived.Test.YtjkbhpokboolpaaGreatDoorProg
import Derived.Test.YtjkbhpokboolpaaGreatDoorV4
import Derived.Test.YtjkbhpokboolpaaGreatDoorV5
import Derived.Test.YtjkbhpokboolpaaGreatDoorVF
import Derived.Test.YtjkbhpokboolpaaGreatDoorV6
import Derived.Test.YtjkbhpokboolpaaGreatDoorV7
import Derived.Test.YtjkbhpokboolpaaGreatDoorV9
import Derived.Test.YtjkbhpokboolpaaGreatDoorVD
import Derived.Test.YtjkbhpokboolpaaGreatDoorVC
import Derived.Test.YtjkbhpokboolpaaGreatDoorG0
namespace Go.Proofs.YtjkbhpokboolpaaGreatDoor.Sx
open Go
set_option maxRecDepth 100000
set_option maxHeartbeats 4000000
def edit_Deny.m (x0 : api_Screen) (x1 : GoErr) : Option (api_Screen × GoErr) :=
  ((grid_Copy.m x0).bind fun t29 => (some ((⟨t29.Rows, t29.Cols, t29.Cells, t29.Cursor, true, t29.Insert⟩ : api_Screen), (GoErr.spot x0.Cursor x1))))
theorem edit_Deny.calls {B I : Gh} {h : Heap} {x0 : api_Screen} {x1 : GoErr} {a21 : Option Addr} {p22 : Nat} {n23 : Nat} {v25 : Value} {r : (api_Screen × GoErr)} (H : edit_Deny.m x0 x1 = some r)  :
    Fc Tryz.prog 261 #[.agg #[iv x0.Rows, iv x0.Cols, .slice a21 n23 p22, iv x0.Cursor, .bool x0.Locked, .bool x0.Insert], v25] [rR t_api_Cell .b a21 p22 n23 x0.Cells, rE .i v25 x1] B I h (fun v L => ∃ a40 p41 n42 v44, v = .tuple #[.agg #[iv r.1.Rows, iv r.1.Cols, .slice a40 n42 p41, iv r.1.Cursor, .bool r.1.Locked, .bool r.1.Insert], v44] ∧ L = [rO t_api_Cell .i a40 p41 n42 r.1.Cells, rE .i v44 r.2]) := by
 refine fc_of fun E hs => ?_
 unfold edit_Deny.m at H
 cases hs.nR d0
 refine fn_of2 (rs := [.cell 4 56, .tmp 5]) (N := 18) Tryz.func261 rfl rfl rfl rfl ?_
 refine st 2 [] (k_op (nB hs [iv x0.Rows, iv x0.Cols, .slice a21 x0.Cells.length p22, iv x0.Cursor, .bool x0.Locked, .bool x0.Insert] ?_))
 intro b27 h hs
 refine k_op (nA hs [iv 0, iv 0, .slice none 0 0, iv 0, .bool false, .bool false] (.agg #[iv 0, iv 0, .slice none 0 0, iv 0, .bool false, .bool false]) ?_)
 intro b28 h hs
 refine st 5 [] (k_op (lB (hs.bl d1) 3 rfl ?_))
 refine st 4 [] (k_op (lN (hs.bl d1) 0 6 ?_))
 obtain ⟨hk, bk⟩ := hs.call tk0 (.c (qB d2) .n)
 refine k_call H (fun _ m => grid_Copy.calls m hk) ?_
 rintro t29 _ h H ⟨I, _, ⟨a30, p31, n32, rfl, rfl⟩, hk⟩
 replace hs := bk hk ct1 rfl
 cases hs.nO d0
 refine k_op (sN0 (hs.f d2) [iv t29.Rows, iv t29.Cols, .slice a30 t29.Cells.length p31, iv t29.Cursor, .bool t29.Locked, .bool t29.Insert] (ones_of rfl) ?_)
 intro h hs
 refine st 4 [] (k_op (sB (v := .bool true) hs cw4 ?_))
 intro h hs
 refine st 3 [] (k_op (lN (hs.bl d0) 0 6 ?_))
 rcases (hs.er d4).cases with ⟨c34, rfl⟩ | ⟨c34, t35, u36, rfl⟩
 ·refine st 3 [] (k_op (nB hs [iv x0.Cursor, .nilIface] ?_))
  intro b37 h hs
  have q38 := (hs.er d5)
  obtain ⟨I, hs⟩ := hs.fS q38
  refine st 1 [] (k_op (sN0 (hs.f d3) [iv t29.Rows, iv t29.Cols, .slice a30 t29.Cells.length p31, iv t29.Cursor, .bool true, .bool t29.Insert] (ones_of rfl) ?_))
  intro h hs
  obtain rfl := si H
  exact st 2 [] (k_retQ ⟨[.agg #[iv t29.Rows, iv t29.Cols, .slice a30 t29.Cells.length p31, iv t29.Cursor, .bool true, .bool t29.Insert], (.iface 202 (pv b37))], (.cons (.agg (by kernel_rfl) (by kernel_rfl) (by kernel_rfl) ((hs.bl d0).seg_ 0 6 (Nat.le_of_ble_eq_true rfl))) (.cons (.tmp (by kernel_rfl)) .nil)), I, _, ⟨a30, p31, t29.Cells.length, ((.iface 202 (pv b37))), rfl, rfl⟩, hs.pk (.c d3 (.c d1 .n))⟩)
 refine st 3 [] (k_op (nB hs [iv x0.Cursor, (.iface t35 u36)] ?_))
 intro b37 h hs
 have q38 := (hs.er d5)
 obtain ⟨I, hs⟩ := hs.fS q38
 refine st 1 [] (k_op (sN0 (hs.f d3) [iv t29.Rows, iv t29.Cols, .slice a30 t29.Cells.length p31, iv t29.Cursor, .bool true, .bool t29.Insert] (ones_of rfl) ?_))
 intro h hs
 obtain rfl := si H
 exact st 2 [] (k_retQ ⟨[.agg #[iv t29.Rows, iv t29.Cols, .slice a30 t29.Cells.length p31, iv t29.Cursor, .bool true, .bool t29.Insert], (.iface 202 (pv b37))], (.cons (.agg (by kernel_rfl) (by kernel_rfl) (by kernel_rfl) ((hs.bl d0).seg_ 0 6 (Nat.le_of_ble_eq_true rfl))) (.cons (.tmp (by kernel_rfl)) .nil)), I, _, ⟨a30, p31, t29.Cells.length, ((.iface 202 (pv b37))), rfl, rfl⟩, hs.pk (.c d3 (.c d1 .n))⟩)
def field_Cells.l1.m (K : Nat) (x0 : api_Screen) : Nat → Int → (List Int) → Option ((List Int))
  | 0, _, _ => none
  | k + 1, x31, x32 => (letJ (α := Bool → Option ((List Int))) (fun (x46 : Bool) => (bif x46 then ((app x32 [x31]).bind fun l50 => (field_Cells.l1.m K x0 k (w64 (x31 + 1)) l50)) else (some (x32)))) fun (j47 : Bool → Option ((List Int))) => (if x31 < (x0.Cells.length : Int) then (j47 true) else (j47 false)))
def field_Cells.l2.m (K : Nat) (x0 : api_Screen) : List Int → (List Int) → Option ((List Int))
  | [], x61 => some (x61)
  | x70 :: xs, x61 => (if 0 ≤ x70 then (if x70 < (x0.Cells.length : Int) then (bif (at_ x0.Cells x70).Field then (some (x61)) else ((app x61 [x70]).bind fun l84 => (field_Cells.l2.m K x0 xs l84))) else none) else none)
def field_Cells.m (K : Nat) (x0 : api_Screen) (x1 : Int) : Option (List Int) :=
  ((field_Begin.m K x0 x1).bind fun t27 => (letJ (α := Bool → Option (List Int)) (fun (x29 : Bool) => (bif x29 then ((field_Cells.l1.m K x0 K 0 []).bind fun x38 => (some x38)) else ((field_round.m x0 t27 1).bind fun t56 => ((field_Cells.l2.m K x0 t56 []).bind fun x71 => (some x71))))) fun (j30 : Bool → Option (List Int)) => (if t27 < 0 then (j30 true) else (j30 false))))
theorem field_Cells.calls {B I : Gh} {h : Heap} {K : Nat} {x0 : api_Screen} {x1 : Int} {a21 : Option Addr} {p22 : Nat} {n23 : Nat} {r : (List Int)} (H : field_Cells.m K x0 x1 = some r)  :
    Fc Tryz.prog 270 #[.agg #[iv x0.Rows, iv x0.Cols, .slice a21 n23 p22, iv x0.Cursor, .bool x0.Locked, .bool x0.Insert], iv x1] [rR t_api_Cell .b a21 p22 n23 x0.Cells] B I h (fun v L => ∃ a90 p91 n92, v = .slice a90 n92 p91 ∧ L = [rO (tInt .i64) .i a90 p91 n92 r]) := by
 refine fc_of fun E hs => ?_
 unfold field_Cells.m at H
 cases hs.nR d0
 refine fn_rangeW1 (args := [.agg #[iv x0.Rows, iv x0.Cols, .slice a21 x0.Cells.length p22, iv x0.Cursor, .bool x0.Locked, .bool x0.Insert], iv x1]) (rs := [.tmp 4]) (N := 41) [_, _, _, _] Tryz.func270 rfl rfl rfl rfl ?_
 refine st 1 [] (k_op (nB hs [iv x0.Rows, iv x0.Cols, .slice a21 x0.Cells.length p22, iv x0.Cursor, .bool x0.Locked, .bool x0.Insert] ?_))
 intro b25 h hs
 refine st 3 [] (k_op (nA hs [.slice none 0 0] (.slice none 0 0) ?_))
 intro b26 h hs
 refine st 2 [] (k_op (lN (hs.bl d1) 0 6 ?_))
 obtain ⟨hk, bk⟩ := hs.call tk0 (.c (qB d2) .n)
 refine st 1 [] (k_call H (fun _ m => field_Begin.calls m hk) ?_)
 rintro t27 _ h H ⟨I, _, ⟨rfl, rfl⟩, hk⟩
 replace hs := bk hk ct0 rfl
 refine st 3 [] ?_
 obtain ⟨j30, e89, H⟩ := letJ_some H
 refine k_joinT (fun T ρ h => ∃ (x29 : Bool), ∃ I, j30 x29 = some r ∧ Fits [(2, pv b25), (5, pv b26), (6, iv t27), (13, .bool x29)] ρ ∧ St E T I h) hs tl0 ?_ ?_
 ·refine st 2 [] (k_ite H (fun c28 H => ?_) (fun c28 H => ?_))
  ·exact st 1 [] (k_end ⟨true, I, H, ft, hs⟩)
  exact st 1 [] (k_end ⟨false, I, H, ft, hs⟩)
 clear H
 rintro ρ h ⟨x29, I, H, hf, hs⟩
 refine k_fits _ hf ?_ rfl
 subst e89
 try dsimp only at H
 cases x29
 rotate_left
 ·rw [cond_true] at H
  refine st 5 [true] (k_op (lB (hs.bl d1) 2 rfl ?_))
  refine st 4 [] ?_
  obtain ⟨s37, m44, HR43⟩ := bind_some H
  refine k_loopT hs tl1 0 (fun T k' ρ h => ∃ (x31 : Int) (x32 : List Int), ∃ a33 p34 n35 I, field_Cells.l1.m K x0 k' x31 x32 = some s37 ∧ Fits [(5, pv b26), (16, iv (x0.Cells.length : Int)), (17, iv x31)] ρ ∧ St E (rO (tInt .i64) .i a33 p34 n35 x32 :: rB b26 [.slice a33 n35 p34] 265 :: T) I h) (fun T ρ h => ∃ (x38 : List Int), ∃ a39 p40 n41 I, x38 = s37 ∧ Fits [(5, pv b26)] ρ ∧ St E (rO (tInt .i64) .i a39 p40 n41 x38 :: rB b26 [.slice a39 n41 p40] 265 :: T) I h) K ⟨0, [], none, 0, 0, I, m44, ft, hs.pk (.f imON (.c d0 pk0))⟩ ?_ rfl ?_
  rotate_left
  ·rintro ρ h ⟨x38, a39, p40, n41, I, rfl, hf, hs⟩
   have H := HR43
   try dsimp only at H
   refine k_fits _ hf ?_ rfl
   cases hs.nO d0
   refine st 2 [] (k_op (lB (hs.bl d1) 0 rfl ?_))
   obtain rfl := si H
   exact st 2 [] (k_retQ (krF ⟨_, by kernel_rfl, I, _, ⟨a39, p40, x38.length, rfl, rfl⟩, hs.pk (.c d0 .n)⟩))
  clear HR43 m44 H
  rintro k' ρ h ⟨x31, x32, a33, p34, n35, I, H, hf, hs⟩
  cases k' with
  | zero => cases H
  | succ k =>
   rw [field_Cells.l1.m] at H
   refine k_fits _ hf ?_ rfl
   cases hs.nO d0
   refine st 1 [] ?_
   obtain ⟨j47, e55, H⟩ := letJ_some H
   refine k_joinT (fun T ρ h => ∃ (x46 : Bool), ∃ I, j47 x46 = some s37 ∧ Fits [(5, pv b26), (16, iv (x0.Cells.length : Int)), (17, iv x31), (18, .bool x46)] ρ ∧ St E T I h) hs tl0 ?_ ?_
   ·refine st 1 [] (k_ite H (fun c45 H => ?_) (fun c45 H => ?_))
    ·exact st 1 [] (k_end ⟨true, I, H, ft, hs⟩)
    exact st 1 [] (k_end ⟨false, I, H, ft, hs⟩)
   clear H
   rintro ρ h ⟨x46, I, H, hf, hs⟩
   refine k_fits _ hf ?_ rfl
   subst e55
   try dsimp only at H
   cases x46
   ·rw [cond_false] at H
    refine st 2 [false] (k_out rfl ?_)
    obtain rfl := si H
    exact xE ⟨x32, a33, p34, x32.length, I, rfl, ft, hs.pk (.c d0 (.c d0 pk0))⟩
   rw [cond_true] at H
   refine st 11 [true] (k_op (lB (hs.bl d1) 0 rfl ?_))
   refine st 1 [] (k_op (nS (e := 3) hs .i (tInt .i64) ([x31] : List Int) [iv x31] 1 (iv 0) (Reps.int (I := (Cl.G .i E.B I)) (k := .i64) (l := [x31])) ?_))
   intro b48 h hs
   replace hs := (hs.f d1)
   obtain ⟨l50, m51, H⟩ := bind_some H
   refine k_op (aO (e := 3) (bytes := 8) hs (hs.sO d1) m51 ?_)
   intro a52 p53 h hs
   refine k_op (sB (v := .slice a52 l50.length p53) (hs.f d2) cw0 ?_)
   intro h hs
   exact st 6 [] (k_endL ⟨k, Nat.lt_succ_self _, (w64 (x31 + 1)), l50, a52, p53, l50.length, I, H, ft, hs.pk (.c d1 (.c d0 pk1))⟩)
 rw [cond_false] at H
 refine st 3 [false] (k_op (lN (hs.bl d1) 0 6 ?_))
 obtain ⟨hk, bk⟩ := hs.call tk0 .n
 refine st 1 [] (k_call H (fun _ m => field_round.calls (a21 := a21) (p22 := p22) (n23 := x0.Cells.length) m hk) ?_)
 rintro t56 _ h H ⟨I, _, ⟨b57, b58, b59, rfl, rfl, m60⟩, hk⟩
 replace hs := bk hk ct3 rfl
 refine st 1 [] ?_
 obtain ⟨s67, m68, HR69⟩ := bind_some H
 clear H
 obtain ⟨h66, eh66⟩ : ∃ h', h' = h := ⟨_, rfl⟩
 subst eh66
 refine k_loopW (range_st (p := 29) (enc := fun (x : Int) => iv x) (hs.pk (.c d5 (.c d4 (.f imON (.c d3 (.c d0 (.c d0 (.c d0 .n)))))))) (fun (pre : List Int) L => ∃ (rest : List Int), ∃ (x61 : List Int), ∃ a62 p63 n64, t56 = pre ++ rest ∧ (field_Cells.l2.m K x0 rest x61) = some s67 ∧ L = [rR t_api_Cell .b a21 p22 x0.Cells.length x0.Cells, rB b25 [iv x0.Rows, iv x0.Cols, .slice a21 x0.Cells.length p22, iv x0.Cursor, .bool x0.Locked, .bool x0.Insert] 56, rO (tInt .i64) .i a62 p63 n64 x61, rB b26 [.slice a62 n64 p63] 265, rB b57 [iv x0.Rows, iv x0.Cols, .slice a21 x0.Cells.length p22, iv x0.Cursor, .bool x0.Locked, .bool x0.Insert] 56, rB b58 [iv t27] 3, rB b59 [iv 1] 3]) (mkY (fun _ => False) (fun i L => i = 2 ∧ ∃ (x71 : List Int), ∃ a72 p73 n74, x71 = s67 ∧ L = [rO (tInt .i64) .i a72 p73 n74 x71, rB b26 [.slice a72 n74 p73] 265])) ⟨t56, [], none, 0, 0, rfl, m68, rfl⟩ (by kernel_rfl) (enters_of Tryz.func306 rfl (by kernel_rfl)) (field_round.iter (a := a21) (p := p22) (n := x0.Cells.length) (b1 := b57) (b2 := b58) (b3 := b59) m60) ?_ (fun x => [(8, iv x), (29, iv x)]) ?_ rfl ?_) ?_ ?_ ?_
 ·rintro o pre L I h' ⟨rest, x61, a62, p63, n64, _, _, rfl⟩ hs
  exact ⟨(hs.bl d5).seg_ 0 6 (Nat.le_of_ble_eq_true rfl), (hs.bl d5).cell (off := 2) rfl, (hs.bl d6).cell (off := 0) rfl, (hs.bl d7).cell (off := 0) rfl, ⟨_, hs.bdG (k := .b), hs.rd d1⟩, rfl⟩
 ·intro x Q h' q
  exact st 3 [] (k_fin2 q)
 ·rintro o pre x70 rest' L I h hx' ⟨rest, x61, a62, p63, n64, hx, H, rfl⟩ hs
  obtain rfl : rest = x70 :: rest' := List.append_cancel_left (hx.symm.trans hx')
  clear hx'
  obtain ⟨rest, erest⟩ : ∃ r, r = rest' := ⟨_, rfl⟩
  subst erest
  rw [field_Cells.l2.m] at H
  cases hs.nO d3
  refine st 5 [] (k_op (lB (hs.bl d2) 2 rfl ?_))
  obtain ⟨c76, H⟩ := guard_pos H
  obtain ⟨c77, H⟩ := guard_pos H
  refine st 1 [] (k_val (elemPtr a21 (x70.toNat * 6)) (pI (e := 89) (ik := .i64) (hs.sR d1) c76 c77) ?_)
  refine k_val (elemPtr a21 (x70.toNat * 6 + 0)) (pF (off := 0) (hs.sR d1) c76 c77) ?_
  obtain ⟨y79, g78, q80⟩ := (hs.sR d1).toSl.seg c76 c77
  obtain rfl := t_api_Cell.open_ q80
  refine k_op (lC (seg_cell (f := 0) g78 rfl) ?_)
  refine k_spl H (fun c81 H => ?_) (fun c81 H => ?_)
  ·refine st 2 [true] (k_out rfl ?_)
   obtain rfl := si H
   exact ⟨_, I, ⟨rfl, x61, a62, p63, x61.length, rfl, rfl⟩, hs.pk (.c d0 (.c d2 (.c d2 .n)))⟩
  refine st 4 [false] (k_op (lB (hs.bl d4) 0 rfl ?_))
  refine st 1 [] (k_op (nS (e := 3) hs .i (tInt .i64) ([x70] : List Int) [iv x70] 1 (iv 0) (Reps.int (I := (Cl.G .i E.B I)) (k := .i64) (l := [x70])) ?_))
  intro b82 h hs
  replace hs := (hs.f d4)
  obtain ⟨l84, m85, H⟩ := bind_some H
  refine k_op (aO (e := 3) (bytes := 8) hs (hs.sO d1) m85 ?_)
  intro a86 p87 h hs
  refine k_op (sB (v := .slice a86 l84.length p87) (hs.f d5) cw0 ?_)
  intro h hs
  refine st 2 [] (k_fin ?_)
  exact ⟨_, I, ⟨rest, l84, a86, p87, l84.length, by simp [hx], H, rfl⟩, hs.pk (.c d3 (.c d3 (.c d3 (.c d1 (.c d0 (.c d1 (.c d1 (.c d1 .n))))))))⟩
 ·intro h2 hk
  have key : ∃ (x71 : List Int), ∃ a72 p73 n74, ∃ (o : Obj), ∃ I, x71 = s67 ∧ St E (rQ h66.size (h66.size + 1) o :: [rO (tInt .i64) .i a72 p73 n74 x71, rB b26 [.slice a72 n74 p73] 265]) I h2 := by
    rcases hk with ⟨o, L, I, ⟨rest, x61, a62, p63, n64, hx, H, rfl⟩, hs⟩ | ⟨o, L, I, hy, hs⟩
    · obtain rfl : rest = [] := List.append_cancel_left (hx.symm.trans (List.append_nil _).symm)
      rw [field_Cells.l2.m] at H
      obtain rfl := si H
      cases hs.nO d3
      exact ⟨x61, a62, p63, x61.length, o, I, rfl, hs.pk (.c d0 (.c d2 (.c d2 .n)))⟩
    · obtain ⟨_, x71, a72, p73, n74, rfl, rfl⟩ := hy
      exact ⟨x71, a72, p73, n74, o, I, rfl, hs⟩
  obtain ⟨x71, a72, p73, n74, o, I, rfl, hs⟩ := key
  have H := HR69
  try dsimp only at H
  cases hs.nO d1
  refine st 2 [] (k_op (lB (hs.bl d2) 0 rfl ?_))
  refine st 2 [] (k_retQ (krM ?_))
  obtain rfl := si H
  refine ⟨(hs.rqD d0).1, ?_⟩
  replace hs := hs.rqe
  exact ⟨_, by kernel_rfl, I, _, ⟨a72, p73, x71.length, rfl, rfl⟩, hs.pk (.c d0 .n)⟩
 ·rintro h2 ⟨o, L, I, hy, hs⟩
  exact hy.elim
 rintro i L ⟨rfl, _⟩
 rfl
def slices_Index_int.l1.m (K : Nat) (x0 : (List Int)) (x1 : Int) : Nat → Int → Option (Int ⊕ (Unit))
  | 0, _ => none
  | k + 1, x26 => (if x26 < (x0.length : Int) then (if 0 ≤ x26 then (if x1 = (at_ x0 x26) then (some (Sum.inl x26)) else (slices_Index_int.l1.m K x0 x1 k (w64 (x26 + 1)))) else none) else (some (Sum.inr ())))
def slices_Index_int.m (K : Nat) (x0 : (List Int)) (x1 : Int) : Option Int :=
  ((slices_Index_int.l1.m K x0 x1 K 0).bind fun s27 => match s27 with | .inl q => (some q) | .inr _ => (some (-1)))
theorem slices_Index_int.calls {G : Gh} {K : Nat} {x0 : (List Int)} {x1 : Int} {a21 : Option Addr} {p22 : Nat} {n23 : Nat} {h : Heap} {r : Int} (H : slices_Index_int.m K x0 x1 = some r)  (s25 : Sn (tInt .i64) G h a21 p22 n23 x0) :
    Ret Tryz.prog 287 #[.slice a21 n23 p22, iv x1] h (fun v h' => iv r = v ∧ h' = h) := by
 unfold slices_Index_int.m at H
 obtain rfl := s25.len.symm
 refine fn_of (rs := [.tmp 4]) (N := 19) Tryz.func287 rfl rfl rfl rfl ?_
 refine st 12 [] ?_
 obtain ⟨s27, m29, HR28⟩ := bind_some H
 refine k_loop 0 (fun k' ρ h1 => ∃ (x26 : Int), slices_Index_int.l1.m K x0 x1 k' x26 = some s27 ∧ Fits [(0, .slice a21 x0.length p22), (1, iv x1), (7, iv (x0.length : Int)), (8, iv x26)] ρ ∧ h = h1) (fun ρ h1 => Sum.inr () = s27 ∧ Fits [] ρ ∧ h = h1) K ⟨0, m29, ft, rfl⟩ ?_ rfl ?_
 rotate_left
 ·rintro ρ h1 ⟨rfl, hf, rfl⟩
  have H := HR28
  try dsimp only at H
  refine k_fits _ hf ?_ rfl
  obtain rfl := si H
  exact st 4 [] (k_retQ ⟨_, by kernel_rfl, rfl, rfl⟩)
 clear m29 H
 rintro k' ρ h1 ⟨x26, H, hf, rfl⟩
 cases k' with
 | zero => cases H
 | succ k =>
  rw [slices_Index_int.l1.m] at H
  refine k_fits _ hf ?_ rfl
  refine st 2 [] (k_ite H (fun c30 H => ?_) (fun c30 H => ?_))
  rotate_left
  ·refine st 3 [false] (k_out rfl ?_)
   obtain rfl := si H
   exact xE ⟨rfl, trivial, rfl⟩
  obtain ⟨c31, H⟩ := guard_pos H
  refine st 16 [true] (k_val (elemPtr a21 (x26.toNat * 1)) (pI (e := 3) (ik := .i64) s25 c31 c30) ?_)
  refine k_op (lC (s25.cell1 c31 c30) ?_)
  refine k_ite H (fun c32 H => ?_) (fun c32 H => ?_)
  ·refine st 7 [true] (k_retQ (krL ?_))
   obtain rfl := si H
   obtain rfl := Option.some.inj HR28
   exact ⟨_, by kernel_rfl, rfl, rfl⟩
  exact st 8 [false] (k_endL ⟨k, Nat.lt_succ_self _, (w64 (x26 + 1)), H, ft, rfl⟩)
def edit_Line.m (K : Nat) (x0 : api_Screen) (x1 : Int) : Option (List Int) :=
  ((field_Open.m K x0 x1).bind fun t26 => bif t26 then ((field_Cells.m K x0 x1).bind fun t27 => ((slices_Index_int.m K t27 x1).bind fun t32 => (if 0 ≤ t32 then (if t32 ≤ (t27.length : Int) then (some (sub t27 t32 (t27.length : Int))) else none) else none))) else (some []))
theorem edit_Line.calls {B I : Gh} {h : Heap} {K : Nat} {x0 : api_Screen} {x1 : Int} {a21 : Option Addr} {p22 : Nat} {n23 : Nat} {r : (List Int)} (H : edit_Line.m K x0 x1 = some r)  :
    Fc Tryz.prog 262 #[.agg #[iv x0.Rows, iv x0.Cols, .slice a21 n23 p22, iv x0.Cursor, .bool x0.Locked, .bool x0.Insert], iv x1] [rR t_api_Cell .b a21 p22 n23 x0.Cells] B I h (fun v L => ∃ a36 p37 n38, v = .slice a36 n38 p37 ∧ L = [rO (tInt .i64) .i a36 p37 n38 r]) := by
 refine fc_of fun E hs => ?_
 unfold edit_Line.m at H
 cases hs.nR d0
 refine fn_of (rs := [.tmp 4]) (N := 18) Tryz.func262 rfl rfl rfl rfl ?_
 refine st 2 [] (k_op (nB hs [iv x0.Rows, iv x0.Cols, .slice a21 x0.Cells.length p22, iv x0.Cursor, .bool x0.Locked, .bool x0.Insert] ?_))
 intro b25 h hs
 refine st 5 [] (k_op (lN (hs.bl d0) 0 6 ?_))
 obtain ⟨hk, bk⟩ := hs.call tk0 (.c (qB d1) .n)
 refine st 1 [] (k_call H (fun _ m => field_Open.calls m hk) ?_)
 rintro t26 _ h H ⟨I, _, ⟨rfl, rfl⟩, hk⟩
 replace hs := bk hk ct0 rfl
 cases t26
 ·rw [cond_false] at H
  obtain rfl := si H
  exact st 7 [true] (k_retQ ⟨_, by kernel_rfl, I, _, ⟨none, 0, 0, rfl, rfl⟩, hs.pk (.f imON .n)⟩)
 rw [cond_true] at H
 refine st 6 [false] (k_op (lN (hs.bl d0) 0 6 ?_))
 obtain ⟨hk, bk⟩ := hs.call tk0 (.c (qB d1) .n)
 refine st 1 [] (k_call H (fun _ m => field_Cells.calls m hk) ?_)
 rintro t27 _ h H ⟨I, _, ⟨a28, p29, n30, rfl, rfl⟩, hk⟩
 replace hs := bk hk ct1 rfl
 cases hs.nO d0
 refine st 7 [] (k_call H (fun _ m => slices_Index_int.calls m (hs.sO d0)) ?_)
 rintro t32 _ _ H ⟨rfl, rfl⟩
 obtain ⟨c33, H⟩ := guard_pos H
 obtain ⟨c34, H⟩ := guard_pos H
 refine k_val (.slice (slA a28 p29 (Int.toNat t32) 1) ((sub t27 t32 (t27.length : Int)).length) (p29 - Int.toNat t32)) (pSl (e := 3) (k1 := .i64) (hs.sO d0) c33 c34 (Int.le_refl _)) ?_
 obtain rfl := si H
 replace hs := hs.partO (lo := t32) (hi := (t27.length : Int)) c33 c34 (Int.le_refl _)
 exact st 2 [] (k_retQ ⟨_, by kernel_rfl, I, _, ⟨(slA a28 p29 (Int.toNat t32) 1), (p29 - Int.toNat t32), (sub t27 t32 (t27.length : Int)).length, rfl, rfl⟩, hs.pk (.c d0 .n)⟩)
def edit_Modify.m (K : Nat) (x0 : api_Screen) (x1 : Int) : Option api_Screen :=
  ((grid_Copy.m x0).bind fun t27 => ((field_Begin.m K t27 x1).bind fun t32 => (if t32 ≥ 0 then (if 0 ≤ t32 then (if t32 < (t27.Cells.length : Int) then (some (⟨t27.Rows, t27.Cols, (t27.Cells.set t32.toNat (⟨(at_ t27.Cells t32).Field, (⟨((at_ t27.Cells t32).Attr).Protected, ((at_ t27.Cells t32).Attr).Numeric, ((at_ t27.Cells t32).Attr).Show, true⟩ : api_Attr), (at_ t27.Cells t32).Char⟩ : api_Cell)), t27.Cursor, t27.Locked, t27.Insert⟩ : api_Screen)) else none) else none) else (some t27))))
theorem edit_Modify.calls {B I : Gh} {h : Heap} {K : Nat} {x0 : api_Screen} {x1 : Int} {a21 : Option Addr} {p22 : Nat} {n23 : Nat} {r : api_Screen} (H : edit_Modify.m K x0 x1 = some r)  :
    Fc Tryz.prog 263 #[.agg #[iv x0.Rows, iv x0.Cols, .slice a21 n23 p22, iv x0.Cursor, .bool x0.Locked, .bool x0.Insert], iv x1] [rR t_api_Cell .b a21 p22 n23 x0.Cells] B I h (fun v L => ∃ a39 p40 n41, v = .agg #[iv r.Rows, iv r.Cols, .slice a39 n41 p40, iv r.Cursor, .bool r.Locked, .bool r.Insert] ∧ L = [rO t_api_Cell .i a39 p40 n41 r.Cells]) := by
 refine fc_of fun E hs => ?_
 unfold edit_Modify.m at H
 cases hs.nR d0
 refine fn_of2 (rs := [.cell 4 56]) (N := 20) Tryz.func263 rfl rfl rfl rfl ?_
 refine st 2 [] (k_op (nB hs [iv x0.Rows, iv x0.Cols, .slice a21 x0.Cells.length p22, iv x0.Cursor, .bool x0.Locked, .bool x0.Insert] ?_))
 intro b25 h hs
 refine k_op (nA hs [iv 0, iv 0, .slice none 0 0, iv 0, .bool false, .bool false] (.agg #[iv 0, iv 0, .slice none 0 0, iv 0, .bool false, .bool false]) ?_)
 intro b26 h hs
 refine st 3 [] (k_op (lN (hs.bl d1) 0 6 ?_))
 obtain ⟨hk, bk⟩ := hs.call tk0 (.c (qB d2) .n)
 refine k_call H (fun _ m => grid_Copy.calls m hk) ?_
 rintro t27 _ h H ⟨I, _, ⟨a28, p29, n30, rfl, rfl⟩, hk⟩
 replace hs := bk hk ct1 rfl
 cases hs.nO d0
 refine k_op (sN0 (hs.f d2) [iv t27.Rows, iv t27.Cols, .slice a28 t27.Cells.length p29, iv t27.Cursor, .bool t27.Locked, .bool t27.Insert] (ones_of rfl) ?_)
 intro h hs
 refine st 4 [] (k_op (lN (hs.bl d0) 0 6 ?_))
 obtain ⟨hk, bk⟩ := hs.call tk0 (.c (qO d1) .n)
 refine st 1 [] (k_call H (fun _ m => field_Begin.calls m hk) ?_)
 rintro t32 _ h H ⟨I, _, ⟨rfl, rfl⟩, hk⟩
 replace hs := bk hk ct0 rfl
 refine st 5 [] (k_ite H (fun c33 H => ?_) (fun c33 H => ?_))
 rotate_left
 ·refine st 5 [false] (k_op (lN (hs.bl d0) 0 6 ?_))
  refine k_op (sN0 (hs.f d2) [iv t27.Rows, iv t27.Cols, .slice a28 t27.Cells.length p29, iv t27.Cursor, .bool t27.Locked, .bool t27.Insert] (ones_of rfl) ?_)
  intro h hs
  obtain rfl := si H
  exact st 1 [] (k_retQ ⟨[.agg #[iv t27.Rows, iv t27.Cols, .slice a28 t27.Cells.length p29, iv t27.Cursor, .bool t27.Locked, .bool t27.Insert]], (.cons (.agg (by kernel_rfl) (by kernel_rfl) (by kernel_rfl) ((hs.bl d0).seg_ 0 6 (Nat.le_of_ble_eq_true rfl))) .nil), I, _, ⟨a28, p29, t27.Cells.length, rfl, rfl⟩, hs.pk (.c d2 .n)⟩)
 refine st 4 [true] (k_op (lB (hs.bl d0) 2 rfl ?_))
 obtain ⟨c34, H⟩ := guard_pos H
 obtain ⟨c35, H⟩ := guard_pos H
 refine st 1 [] (k_val (elemPtr a28 (t32.toNat * 6)) (pI (e := 89) (ik := .i64) (hs.sO d1) c34 c35) ?_)
 refine k_val (elemPtr a28 (t32.toNat * 6 + 1)) (pF (off := 1) (hs.sO d1) c34 c35) ?_
 refine k_val (elemPtr a28 (t32.toNat * 6 + 1 + 3)) (pF (off := 3) (hs.sO d1) c34 c35) ?_
 obtain ⟨y37, g36, q38⟩ := (hs.sO d1).toSl.seg c34 c35
 obtain rfl := t_api_Cell.open_ q38
 replace hs := (hs.f d1)
 refine k_op (sE hs 4 [.bool true] (⟨(at_ t27.Cells t32).Field, (⟨((at_ t27.Cells t32).Attr).Protected, ((at_ t27.Cells t32).Attr).Numeric, ((at_ t27.Cells t32).Attr).Show, true⟩ : api_Attr), (at_ t27.Cells t32).Char⟩ : api_Cell) c34 c35 g36 (ones_of rfl) rfl ?_)
 intro h hs
 refine st 3 [] (k_op (lN (hs.bl d1) 0 6 ?_))
 refine k_op (sN0 (hs.f d2) [iv t27.Rows, iv t27.Cols, .slice a28 t27.Cells.length p29, iv t27.Cursor, .bool t27.Locked, .bool t27.Insert] (ones_of rfl) ?_)
 intro h hs
 obtain rfl := si H
 exact st 1 [] (k_retQ ⟨[.agg #[iv t27.Rows, iv t27.Cols, .slice a28 t27.Cells.length p29, iv t27.Cursor, .bool t27.Locked, .bool t27.Insert]], (.cons (.agg (by kernel_rfl) (by kernel_rfl) (by kernel_rfl) ((hs.bl d0).seg_ 0 6 (Nat.le_of_ble_eq_true rfl))) .nil), I, _, ⟨a28, p29, t27.Cells.length, rfl, rfl⟩, hs.pk (.c d1 .n)⟩)
def wipe_Do.l1.m (K : Nat) (x0 : api_Screen) (x1 : Int) (t42 : (List Int)) : Nat → Int → (List api_Cell) → Option ((List api_Cell))
  | 0, _, _ => none
  | k + 1, x53, x54 => (letJ (α := Bool → Option ((List api_Cell))) (fun (x68 : Bool) => (bif x68 then (if 0 ≤ x53 then (if x53 < (t42.length : Int) then (if 0 ≤ (at_ t42 x53) then (if (at_ t42 x53) < (x54.length : Int) then (letJ (α := Bool → Option ((List api_Cell))) (fun (x79 : Bool) => (bif x79 then (if 0 ≤ (w64 (x53 + 1)) then (if (w64 (x53 + 1)) < (t42.length : Int) then (if 0 ≤ (at_ t42 (w64 (x53 + 1))) then (if (at_ t42 (w64 (x53 + 1))) < (x0.Cells.length : Int) then (if (at_ t42 x53) < ((x54.set (at_ t42 x53).toNat (⟨(at_ x54 (at_ t42 x53)).Field, ((at_ x54 (at_ t42 x53)).Attr), 0⟩ : api_Cell)).length : Int) then (wipe_Do.l1.m K x0 x1 t42 k (w64 (x53 + 1)) ((x54.set (at_ t42 x53).toNat (⟨(at_ x54 (at_ t42 x53)).Field, ((at_ x54 (at_ t42 x53)).Attr), 0⟩ : api_Cell)).set (at_ t42 x53).toNat (⟨(at_ (x54.set (at_ t42 x53).toNat (⟨(at_ x54 (at_ t42 x53)).Field, ((at_ x54 (at_ t42 x53)).Attr), 0⟩ : api_Cell)) (at_ t42 x53)).Field, ((at_ (x54.set (at_ t42 x53).toNat (⟨(at_ x54 (at_ t42 x53)).Field, ((at_ x54 (at_ t42 x53)).Attr), 0⟩ : api_Cell)) (at_ t42 x53)).Attr), (at_ x0.Cells (at_ t42 (w64 (x53 + 1)))).Char⟩ : api_Cell))) else none) else none) else none) else none) else none) else (wipe_Do.l1.m K x0 x1 t42 k (w64 (x53 + 1)) (x54.set (at_ t42 x53).toNat (⟨(at_ x54 (at_ t42 x53)).Field, ((at_ x54 (at_ t42 x53)).Attr), 0⟩ : api_Cell))))) fun (j80 : Bool → Option ((List api_Cell))) => (if x1 = 12 then (if (w64 (x53 + 1)) < (t42.length : Int) then (j80 true) else (j80 false)) else (j80 false))) else none) else none) else none) else none) else (some (x54)))) fun (j69 : Bool → Option ((List api_Cell))) => (if x53 < (t42.length : Int) then (j69 true) else (j69 false)))
def wipe_Do.m (K : Nat) (x0 : api_Screen) (x1 : Int) : Option (api_Screen × GoErr) :=
  (letJ (α := Bool → Option (api_Screen × GoErr)) (fun (x28 : Bool) => (bif x28 then (some (x0, (GoErr.no 1))) else (letJ (α := Bool → Option (api_Screen × GoErr)) (fun (x31 : Bool) => (bif x31 then (some (x0, (GoErr.no 7))) else (letJ (α := Bool → Option (api_Screen × GoErr)) (fun (x34 : Bool) => (bif x34 then ((wipe_all.m K x0).bind fun t36 => (some (t36, GoErr.nil))) else ((field_Open.m K x0 x0.Cursor).bind fun t41 => bif t41 then ((edit_Line.m K x0 x0.Cursor).bind fun t42 => ((edit_Modify.m K x0 x0.Cursor).bind fun t47 => ((wipe_Do.l1.m K x0 x1 t42 K 0 t47.Cells).bind fun x60 => (some ((⟨t47.Rows, t47.Cols, x60, t47.Cursor, t47.Locked, t47.Insert⟩ : api_Screen), GoErr.nil))))) else ((edit_Deny.m x0 (GoErr.no 8)).bind fun t94 => (some (t94.1, t94.2)))))) fun (j35 : Bool → Option (api_Screen × GoErr)) => (if x1 = 14 then (j35 true) else (j35 false))))) fun (j32 : Bool → Option (api_Screen × GoErr)) => (bif x0.Locked then (j32 true) else (j32 false))))) fun (j29 : Bool → Option (api_Screen × GoErr)) => ((wipe_Wipes.m x1).bind fun t27 => bif t27 then (j29 false) else (j29 true)))
theorem wipe_Do.calls {B I : Gh} {h : Heap} {K : Nat} {x0 : api_Screen} {x1 : Int} {a21 : Option Addr} {p22 : Nat} {n23 : Nat} {r : (api_Screen × GoErr)} (H : wipe_Do.m K x0 x1 = some r)  :
    Fc Tryz.prog 228 #[.agg #[iv x0.Rows, iv x0.Cols, .slice a21 n23 p22, iv x0.Cursor, .bool x0.Locked, .bool x0.Insert], iv x1] [rR t_api_Cell .i a21 p22 n23 x0.Cells] B I h (fun v L => ∃ a104 p105 n106 v108, v = .tuple #[.agg #[iv r.1.Rows, iv r.1.Cols, .slice a104 n106 p105, iv r.1.Cursor, .bool r.1.Locked, .bool r.1.Insert], v108] ∧ L = [rR t_api_Cell .i a104 p105 n106 r.1.Cells, rE .i v108 r.2]) := by
 refine fc_of fun E hs => ?_
 unfold wipe_Do.m at H
 cases hs.nR d0
 refine fn_of2 (rs := [.cell 4 56, .tmp 5]) (N := 83) Tryz.func228 rfl rfl rfl rfl ?_
 refine st 2 [] (k_op (nB hs [iv x0.Rows, iv x0.Cols, .slice a21 x0.Cells.length p22, iv x0.Cursor, .bool x0.Locked, .bool x0.Insert] ?_))
 intro b25 h hs
 refine k_op (nA hs [iv 0, iv 0, .slice none 0 0, iv 0, .bool false, .bool false] (.agg #[iv 0, iv 0, .slice none 0 0, iv 0, .bool false, .bool false]) ?_)
 intro b26 h hs
 refine st 5 [] ?_
 obtain ⟨j29, e103, H⟩ := letJ_some H
 refine k_joinT (fun T ρ h => ∃ (x28 : Bool), ∃ I, j29 x28 = some r ∧ Fits [(1, iv x1), (2, pv b25), (4, pv b26), (10, .bool x28)] ρ ∧ St E T I h) hs tl0 ?_ ?_
 ·refine st 2 [] (k_call H (fun _ m => wipe_Wipes.calls m) ?_)
  rintro t27 _ _ H ⟨rfl, rfl⟩
  cases t27
  ·rw [cond_false] at H
   exact st 3 [] (k_end ⟨true, I, H, ft, hs⟩)
  rw [cond_true] at H
  exact st 3 [] (k_end ⟨false, I, H, ft, hs⟩)
 clear H
 rintro ρ h ⟨x28, I, H, hf, hs⟩
 refine k_fits _ hf ?_ rfl
 subst e103
 try dsimp only at H
 cases x28
 rotate_left
 ·rw [cond_true] at H
  refine st 3 [true] (k_op (lN (hs.bl d1) 0 6 ?_))
  refine st 1 [] (k_op (sN0 hs [iv x0.Rows, iv x0.Cols, .slice a21 x0.Cells.length p22, iv x0.Cursor, .bool x0.Locked, .bool x0.Insert] (ones_of rfl) ?_))
  intro h hs
  obtain rfl := si H
  exact st 2 [] (k_retQ ⟨[.agg #[iv x0.Rows, iv x0.Cols, .slice a21 x0.Cells.length p22, iv x0.Cursor, .bool x0.Locked, .bool x0.Insert], .iface 137 (iv 1)], (.cons (.agg (by kernel_rfl) (by kernel_rfl) (by kernel_rfl) ((hs.bl d0).seg_ 0 6 (Nat.le_of_ble_eq_true rfl))) (.cons (.tmp (by kernel_rfl)) .nil)), I, _, ⟨a21, p22, x0.Cells.length, (.iface 137 (iv 1)), rfl, rfl⟩, hs.pk (.c d2 (.f imEC .n))⟩)
 rw [cond_false] at H
 refine st 2 [false] ?_
 obtain ⟨j32, e102, H⟩ := letJ_some H
 refine k_joinT (fun T ρ h => ∃ (x31 : Bool), ∃ I, j32 x31 = some r ∧ Fits [(1, iv x1), (2, pv b25), (4, pv b26), (16, .bool x31)] ρ ∧ St E T I h) hs tl0 ?_ ?_
 ·refine st 2 [] (k_op (lB (hs.bl d1) 4 rfl ?_))
  refine k_spl H (fun c30 H => ?_) (fun c30 H => ?_)
  ·exact st 2 [] (k_end ⟨true, I, H, ft, hs⟩)
  exact st 2 [] (k_end ⟨false, I, H, ft, hs⟩)
 clear H
 rintro ρ h ⟨x31, I, H, hf, hs⟩
 refine k_fits _ hf ?_ rfl
 subst e102
 try dsimp only at H
 cases x31
 rotate_left
 ·rw [cond_true] at H
  refine st 3 [true] (k_op (lN (hs.bl d1) 0 6 ?_))
  refine st 1 [] (k_op (sN0 hs [iv x0.Rows, iv x0.Cols, .slice a21 x0.Cells.length p22, iv x0.Cursor, .bool x0.Locked, .bool x0.Insert] (ones_of rfl) ?_))
  intro h hs
  obtain rfl := si H
  exact st 2 [] (k_retQ ⟨[.agg #[iv x0.Rows, iv x0.Cols, .slice a21 x0.Cells.length p22, iv x0.Cursor, .bool x0.Locked, .bool x0.Insert], .iface 137 (iv 7)], (.cons (.agg (by kernel_rfl) (by kernel_rfl) (by kernel_rfl) ((hs.bl d0).seg_ 0 6 (Nat.le_of_ble_eq_true rfl))) (.cons (.tmp (by kernel_rfl)) .nil)), I, _, ⟨a21, p22, x0.Cells.length, (.iface 137 (iv 7)), rfl, rfl⟩, hs.pk (.c d2 (.f imEC .n))⟩)
 rw [cond_false] at H
 refine st 2 [false] ?_
 obtain ⟨j35, e101, H⟩ := letJ_some H
 refine k_joinT (fun T ρ h => ∃ (x34 : Bool), ∃ I, j35 x34 = some r ∧ Fits [(1, iv x1), (2, pv b25), (4, pv b26), (21, .bool x34)] ρ ∧ St E T I h) hs tl0 ?_ ?_
 ·refine st 2 [] (k_ite H (fun c33 H => ?_) (fun c33 H => ?_))
  ·exact st 2 [] (k_end ⟨true, I, H, ft, hs⟩)
  exact st 2 [] (k_end ⟨false, I, H, ft, hs⟩)
 clear H
 rintro ρ h ⟨x34, I, H, hf, hs⟩
 refine k_fits _ hf ?_ rfl
 subst e101
 try dsimp only at H
 cases x34
 rotate_left
 ·rw [cond_true] at H
  refine st 3 [true] (k_op (lN (hs.bl d1) 0 6 ?_))
  obtain ⟨hk, bk⟩ := hs.call tk0 (.c (qI d2) .n)
  refine k_call H (fun _ m => wipe_all.calls m hk) ?_
  rintro t36 _ h H ⟨I, _, ⟨a37, p38, n39, rfl, rfl⟩, hk⟩
  replace hs := bk hk ct1 rfl
  cases hs.nO d0
  refine k_op (sN0 (hs.f d1) [iv t36.Rows, iv t36.Cols, .slice a37 t36.Cells.length p38, iv t36.Cursor, .bool t36.Locked, .bool t36.Insert] (ones_of rfl) ?_)
  intro h hs
  obtain rfl := si H
  obtain ⟨I, hs⟩ := (hs.f d1).fO
  exact st 2 [] (k_retQ ⟨[.agg #[iv t36.Rows, iv t36.Cols, .slice a37 t36.Cells.length p38, iv t36.Cursor, .bool t36.Locked, .bool t36.Insert], .nilIface], (.cons (.agg (by kernel_rfl) (by kernel_rfl) (by kernel_rfl) ((hs.bl d1).seg_ 0 6 (Nat.le_of_ble_eq_true rfl))) (.cons (.tmp (by kernel_rfl)) .nil)), I, _, ⟨a37, p38, t36.Cells.length, (.nilIface), rfl, rfl⟩, hs.pk (.c d0 (.f imEN .n))⟩)
 rw [cond_false] at H
 refine st 3 [false] (k_op (lN (hs.bl d1) 0 6 ?_))
 refine st 1 [] (k_op (lB (hs.bl d1) 3 rfl ?_))
 obtain ⟨hk, bk⟩ := hs.call tk0 (.c (qI d2) .n)
 refine k_call H (fun _ m => field_Open.calls m hk) ?_
 rintro t41 _ h H ⟨I, _, ⟨rfl, rfl⟩, hk⟩
 replace hs := bk hk ct0 rfl
 cases t41
 ·rw [cond_false] at H
  refine st 6 [true] (k_op (lN (hs.bl d1) 0 6 ?_))
  obtain ⟨hk, bk⟩ := hs.call tk0 (.c (qI d2) (.c xC .n))
  refine st 1 [] (k_call H (fun _ m => edit_Deny.calls m hk) ?_)
  rintro t94 _ h H ⟨I, _, ⟨a95, p96, n97, v99, rfl, rfl⟩, hk⟩
  replace hs := bk hk ct2 rfl
  cases hs.nO d0
  refine st 2 [] (k_op (sN0 (hs.f d2) [iv t94.1.Rows, iv t94.1.Cols, .slice a95 t94.1.Cells.length p96, iv t94.1.Cursor, .bool t94.1.Locked, .bool t94.1.Insert] (ones_of rfl) ?_))
  intro h hs
  obtain rfl := si H
  obtain ⟨I, hs⟩ := (hs.f d1).fO
  exact st 2 [] (k_retQ ⟨[.agg #[iv t94.1.Rows, iv t94.1.Cols, .slice a95 t94.1.Cells.length p96, iv t94.1.Cursor, .bool t94.1.Locked, .bool t94.1.Insert], v99], (.cons (.agg (by kernel_rfl) (by kernel_rfl) (by kernel_rfl) ((hs.bl d1).seg_ 0 6 (Nat.le_of_ble_eq_true rfl))) (.cons (.tmp (by kernel_rfl)) .nil)), I, _, ⟨a95, p96, t94.1.Cells.length, (v99), rfl, rfl⟩, hs.pk (.c d0 (.c d1 .n))⟩)
 rw [cond_true] at H
 refine st 8 [false] (k_op (lN (hs.bl d1) 0 6 ?_))
 refine st 1 [] (k_op (lB (hs.bl d1) 3 rfl ?_))
 obtain ⟨hk, bk⟩ := hs.call tk0 (.c (qI d2) .n)
 refine k_call H (fun _ m => edit_Line.calls m hk) ?_
 rintro t42 _ h H ⟨I, _, ⟨a43, p44, n45, rfl, rfl⟩, hk⟩
 replace hs := bk hk ct1 rfl
 cases hs.nO d0
 refine st 4 [] (k_op (lN (hs.bl d2) 0 6 ?_))
 refine st 1 [] (k_op (lB (hs.bl d2) 3 rfl ?_))
 obtain ⟨hk, bk⟩ := hs.call tk0 (.c (qI d3) .n)
 refine k_call H (fun _ m => edit_Modify.calls m hk) ?_
 rintro t47 _ h H ⟨I, _, ⟨a48, p49, n50, rfl, rfl⟩, hk⟩
 replace hs := bk hk ct1 rfl
 cases hs.nO d0
 refine k_op (nA hs [iv 0, iv 0, .slice none 0 0, iv 0, .bool false, .bool false] (.agg #[iv 0, iv 0, .slice none 0 0, iv 0, .bool false, .bool false]) ?_)
 intro b52 h hs
 refine k_op (sN0 hs [iv t47.Rows, iv t47.Cols, .slice a48 t47.Cells.length p49, iv t47.Cursor, .bool t47.Locked, .bool t47.Insert] (ones_of rfl) ?_)
 intro h hs
 refine st 9 [] ?_
 obtain ⟨s59, m66, HR65⟩ := bind_some H
 refine k_loopT hs tl2 1 (fun T k' ρ h => ∃ (x53 : Int) (x54 : List api_Cell), ∃ a55 p56 n57 I, wipe_Do.l1.m K x0 x1 t42 k' x53 x54 = some s59 ∧ Fits [(1, iv x1), (2, pv b25), (4, pv b26), (6, .slice a43 t42.length p44), (7, pv b52), (45, .slice a43 t42.length p44), (46, iv (t42.length : Int)), (47, iv x53)] ρ ∧ St E (rO t_api_Cell .i a55 p56 n57 x54 :: rB b52 [iv t47.Rows, iv t47.Cols, .slice a55 n57 p56, iv t47.Cursor, .bool t47.Locked, .bool t47.Insert] 56 :: T) I h) (fun T ρ h => ∃ (x60 : List api_Cell), ∃ a61 p62 n63 I, x60 = s59 ∧ Fits [(4, pv b26), (7, pv b52)] ρ ∧ St E (rO t_api_Cell .i a61 p62 n63 x60 :: rB b52 [iv t47.Rows, iv t47.Cols, .slice a61 n63 p62, iv t47.Cursor, .bool t47.Locked, .bool t47.Insert] 56 :: T) I h) K ⟨0, t47.Cells, a48, p49, t47.Cells.length, I, m66, ft, hs.pk (.c d1 (.c d0 pk0))⟩ ?_ rfl ?_
 rotate_left
 ·rintro ρ h ⟨x60, a61, p62, n63, I, rfl, hf, hs⟩
  have H := HR65
  try dsimp only at H
  refine k_fits _ hf ?_ rfl
  cases hs.nO d0
  refine st 2 [] (k_op (lN (hs.bl d1) 0 6 ?_))
  refine k_op (sN0 (hs.f d3) [iv t47.Rows, iv t47.Cols, .slice a61 x60.length p62, iv t47.Cursor, .bool t47.Locked, .bool t47.Insert] (ones_of rfl) ?_)
  intro h hs
  obtain rfl := si H
  obtain ⟨I, hs⟩ := (hs.f d1).fO
  exact st 2 [] (k_retQ ⟨[.agg #[iv t47.Rows, iv t47.Cols, .slice a61 x60.length p62, iv t47.Cursor, .bool t47.Locked, .bool t47.Insert], .nilIface], (.cons (.agg (by kernel_rfl) (by kernel_rfl) (by kernel_rfl) ((hs.bl d1).seg_ 0 6 (Nat.le_of_ble_eq_true rfl))) (.cons (.tmp (by kernel_rfl)) .nil)), I, _, ⟨a61, p62, x60.length, (.nilIface), rfl, rfl⟩, hs.pk (.c d0 (.f imEN .n))⟩)
 clear HR65 m66 H
 rintro k' ρ h ⟨x53, x54, a55, p56, n57, I, H, hf, hs⟩
 cases k' with
 | zero => cases H
 | succ k =>
  rw [wipe_Do.l1.m] at H
  refine k_fits _ hf ?_ rfl
  cases hs.nO d0
  refine st 1 [] ?_
  obtain ⟨j69, e93, H⟩ := letJ_some H
  refine k_joinT (fun T ρ h => ∃ (x68 : Bool), ∃ I, j69 x68 = some s59 ∧ Fits [(1, iv x1), (2, pv b25), (4, pv b26), (6, .slice a43 t42.length p44), (7, pv b52), (45, .slice a43 t42.length p44), (46, iv (t42.length : Int)), (47, iv x53), (48, .bool x68)] ρ ∧ St E T I h) hs tl0 ?_ ?_
  ·refine st 1 [] (k_ite H (fun c67 H => ?_) (fun c67 H => ?_))
   ·exact st 1 [] (k_end ⟨true, I, H, ft, hs⟩)
   exact st 1 [] (k_end ⟨false, I, H, ft, hs⟩)
  clear H
  rintro ρ h ⟨x68, I, H, hf, hs⟩
  refine k_fits _ hf ?_ rfl
  subst e93
  try dsimp only at H
  cases x68
  ·rw [cond_false] at H
   refine st 2 [false] (k_out rfl ?_)
   obtain rfl := si H
   exact xE ⟨x54, a55, p56, x54.length, I, rfl, ft, hs.pk (.c d0 (.c d0 pk0))⟩
  rw [cond_true] at H
  obtain ⟨c70, H⟩ := guard_pos H
  obtain ⟨c71, H⟩ := guard_pos H
  refine st 8 [true] (k_val (elemPtr a43 (x53.toNat * 1)) (pI (e := 3) (ik := .i64) (hs.sO d2) c70 c71) ?_)
  refine k_op (lC ((hs.sO d2).cell1 c70 c71) ?_)
  refine st 6 [] (k_op (lB (hs.bl d1) 2 rfl ?_))
  obtain ⟨c72, H⟩ := guard_pos H
  obtain ⟨c73, H⟩ := guard_pos H
  refine st 1 [] (k_val (elemPtr a55 ((at_ t42 x53).toNat * 6)) (pI (e := 89) (ik := .i64) (hs.sO d0) c72 c73) ?_)
  refine k_val (elemPtr a55 ((at_ t42 x53).toNat * 6 + 5)) (pF (off := 5) (hs.sO d0) c72 c73) ?_
  obtain ⟨y75, g74, q76⟩ := (hs.sO d0).toSl.seg c72 c73
  obtain rfl := t_api_Cell.open_ q76
  refine k_op (sE hs 5 [.int .u8 0] (⟨(at_ x54 (at_ t42 x53)).Field, ((at_ x54 (at_ t42 x53)).Attr), 0⟩ : api_Cell) c72 c73 g74 (ones_of rfl) rfl ?_)
  intro h hs
  refine st 2 [] ?_
  obtain ⟨j80, e92, H⟩ := letJ_some H
  refine k_joinT (fun T ρ h => ∃ (x79 : Bool), ∃ I, j80 x79 = some s59 ∧ Fits [(1, iv x1), (2, pv b25), (4, pv b26), (6, .slice a43 t42.length p44), (7, pv b52), (8, iv x53), (9, iv (at_ t42 x53)), (45, .slice a43 t42.length p44), (46, iv (t42.length : Int)), (47, iv x53), (65, .bool x79)] ρ ∧ St E T I h) hs tl0 ?_ ?_
  ·refine st 2 [] (k_ite H (fun c77 H => ?_) (fun c77 H => ?_))
   ·refine st 5 [] (k_ite H (fun c78 H => ?_) (fun c78 H => ?_))
    ·exact st 2 [] (k_end ⟨true, I, H, ft, hs⟩)
    exact st 2 [] (k_end ⟨false, I, H, ft, hs⟩)
   exact st 8 [] (k_end ⟨false, I, H, ft, hs⟩)
  clear H
  rintro ρ h ⟨x79, I, H, hf, hs⟩
  refine k_fits _ hf ?_ rfl
  subst e92
  try dsimp only at H
  cases x79
  ·rw [cond_false] at H
   exact st 7 [false] (k_endL ⟨k, Nat.lt_succ_self _, (w64 (x53 + 1)), (x54.set (at_ t42 x53).toNat (⟨(at_ x54 (at_ t42 x53)).Field, ((at_ x54 (at_ t42 x53)).Attr), 0⟩ : api_Cell)), a55, p56, x54.length, I, H, ft, hs.pk (.c d0 (.c d0 pk0))⟩)
  rw [cond_true] at H
  refine st 1 [true] ?_
  obtain ⟨hs0, bk0⟩ := hs.call tk0 (.c (qL d1) (.c (qL d4) (.c (qO d2) (.c (qK d5) (.c (qO d0) .n)))))
  have hs := hs0
  refine k_regD hs0 15 ?_
  refine aRun [0] 15 hs.keep ?_
  refine aL 1 rfl hs.keep (ll hs0 d0 (n := 2) rfl) (nmL hs0 d0) ?_
  refine aRun [2, 3] 12 hs.keep ?_
  refine aL 4 rfl hs.keep (ll hs0 d1 (n := 2) rfl) (nmL hs0 d1) ?_
  obtain ⟨c81, H⟩ := guard_pos H
  obtain ⟨c82, H⟩ := guard_pos H
  refine aRun [5, 6, 7] 8 hs.keep ?_
  refine aP 8 (elemPtr a43 ((w64 (x53 + 1)).toNat * 1)) rfl (pI (e := 3) (ik := .i64) (hs.sR d2) c81 c82) hs.keep ?_
  refine aL 9 rfl hs.keep ((hs0.sR d2).cell1 c81 c82) (nmR hs0 d2 c81 c82) ?_
  obtain ⟨c83, H⟩ := guard_pos H
  obtain ⟨c84, H⟩ := guard_pos H
  refine aP 10 (elemPtr a21 ((at_ t42 (w64 (x53 + 1))).toNat * 6)) rfl (pI (e := 89) (ik := .i64) (hs.sR d3) c83 c84) hs.keep ?_
  refine aP 11 (elemPtr a21 ((at_ t42 (w64 (x53 + 1))).toNat * 6 + 5)) rfl (pF (off := 5) (hs.sR d3) c83 c84) hs.keep ?_
  obtain ⟨y86, g85, q87⟩ := (hs0.sR d3).toSl.seg c83 c84
  obtain rfl := t_api_Cell.open_ q87
  refine aL 12 rfl hs.keep (seg_cell (f := 5) g85 rfl) (nmR hs0 d3 c83 c84) ?_
  obtain ⟨c88, H⟩ := guard_pos H
  refine aP 13 (elemPtr a55 ((at_ t42 x53).toNat * 6)) rfl (pI (e := 89) (ik := .i64) (hs.sR d4) c72 c88) hs.keep ?_
  refine aP 14 (elemPtr a55 ((at_ t42 x53).toNat * 6 + 5)) rfl (pF (off := 5) (hs.sR d4) c72 c88) hs.keep ?_
  replace hs := hs.pk .n
  replace hs := bk0 hs ct0 rfl
  obtain ⟨y90, g89, q91⟩ := (hs.sO d0).toSl.seg c72 c88
  obtain rfl := t_api_Cell.open_ q91
  refine aOL 15 rfl (sE hs 5 [.int .u8 ((at_ x0.Cells (at_ t42 (w64 (x53 + 1)))).Char)] (⟨(at_ (x54.set (at_ t42 x53).toNat (⟨(at_ x54 (at_ t42 x53)).Field, ((at_ x54 (at_ t42 x53)).Attr), 0⟩ : api_Cell)) (at_ t42 x53)).Field, ((at_ (x54.set (at_ t42 x53).toNat (⟨(at_ x54 (at_ t42 x53)).Field, ((at_ x54 (at_ t42 x53)).Attr), 0⟩ : api_Cell)) (at_ t42 x53)).Attr), (at_ x0.Cells (at_ t42 (w64 (x53 + 1)))).Char⟩ : api_Cell) c72 c88 g89 (ones_of rfl) rfl ?_)
  intro h hs
  refine aEnd ?_
  exact st 5 [] (k_endL ⟨k, Nat.lt_succ_self _, (w64 (x53 + 1)), ((x54.set (at_ t42 x53).toNat (⟨(at_ x54 (at_ t42 x53)).Field, ((at_ x54 (at_ t42 x53)).Attr), 0⟩ : api_Cell)).set (at_ t42 x53).toNat (⟨(at_ (x54.set (at_ t42 x53).toNat (⟨(at_ x54 (at_ t42 x53)).Field, ((at_ x54 (at_ t42 x53)).Attr), 0⟩ : api_Cell)) (at_ t42 x53)).Field, ((at_ (x54.set (at_ t42 x53).toNat (⟨(at_ x54 (at_ t42 x53)).Field, ((at_ x54 (at_ t42 x53)).Attr), 0⟩ : api_Cell)) (at_ t42 x53)).Attr), (at_ x0.Cells (at_ t42 (w64 (x53 + 1)))).Char⟩ : api_Cell)), a55, p56, x54.length, I, H, ft, hs.pk (.c d0 (.c d0 pk0))⟩)
def edit_Digit.m (x0 : Int) : Option Bool :=
  (if x0 ≥ 240 then (if x0 ≤ 249 then (some true) else (if x0 = 96 then (some true) else (some (x0 == 75)))) else (if x0 = 96 then (some true) else (some (x0 == 75))))
theorem edit_Digit.calls {x0 : Int} {h : Heap} {r : Bool} (H : edit_Digit.m x0 = some r)   :
    Ret Tryz.prog 289 #[.int .u8 x0] h (fun v h' => .bool r = v ∧ h' = h) := by
 unfold edit_Digit.m at H
 refine fn_of (rs := [.tmp 2]) (N := 17) Tryz.func289 rfl rfl rfl rfl ?_
 refine st 7 [] (k_ite H (fun c21 H => ?_) (fun c21 H => ?_))
 rotate_left
 ·refine st 6 [] (k_ite H (fun c24 H => ?_) (fun c24 H => ?_))
  ·obtain rfl := si H
   exact st 7 [] (k_retQ ⟨_, by kernel_rfl, rfl, rfl⟩)
  obtain rfl := si H
  exact st 7 [] (k_retQ ⟨_, by kernel_rfl, rfl, rfl⟩)
 refine st 2 [] (k_ite H (fun c22 H => ?_) (fun c22 H => ?_))
 ·obtain rfl := si H
  exact st 11 [] (k_retQ ⟨_, by kernel_rfl, rfl, rfl⟩)
 refine st 3 [] (k_ite H (fun c23 H => ?_) (fun c23 H => ?_))
 ·obtain rfl := si H
  exact st 7 [] (k_retQ ⟨_, by kernel_rfl, rfl, rfl⟩)
 obtain rfl := si H
 exact st 7 [] (k_retQ ⟨_, by kernel_rfl, rfl, rfl⟩)
def edit_fits.m (K : Nat) (x0 : api_Screen) (x1 : Int) : Option GoErr :=
  (letJ (α := Bool → Option GoErr) (fun (x27 : Bool) => (bif x27 then (some (GoErr.no 8)) else (letJ (α := Bool → Option GoErr) (fun (x31 : Bool) => (bif x31 then (some GoErr.nil) else ((field_Of.m K x0 x0.Cursor).bind fun t33 => (bif t33.Numeric then ((edit_Digit.m x1).bind fun t35 => bif t35 then (some GoErr.nil) else (some (GoErr.no 9))) else (some GoErr.nil))))) fun (j32 : Bool → Option GoErr) => (if x1 = 28 then (j32 true) else (if x1 = 30 then (j32 true) else (j32 false)))))) fun (j28 : Bool → Option GoErr) => ((field_Open.m K x0 x0.Cursor).bind fun t26 => bif t26 then (j28 false) else (j28 true)))
theorem edit_fits.calls {B I : Gh} {h : Heap} {K : Nat} {x0 : api_Screen} {x1 : Int} {a21 : Option Addr} {p22 : Nat} {n23 : Nat} {r : GoErr} (H : edit_fits.m K x0 x1 = some r)  :
    Fc Tryz.prog 264 #[.agg #[iv x0.Rows, iv x0.Cols, .slice a21 n23 p22, iv x0.Cursor, .bool x0.Locked, .bool x0.Insert], .int .u8 x1] [rR t_api_Cell .b a21 p22 n23 x0.Cells] B I h (fun v L => ∃ v38, v = v38 ∧ L = [rE .i v38 r]) := by
 refine fc_of fun E hs => ?_
 unfold edit_fits.m at H
 cases hs.nR d0
 refine fn_of (rs := [.tmp 4]) (N := 31) Tryz.func264 rfl rfl rfl rfl ?_
 refine st 2 [] (k_op (nB hs [iv x0.Rows, iv x0.Cols, .slice a21 x0.Cells.length p22, iv x0.Cursor, .bool x0.Locked, .bool x0.Insert] ?_))
 intro b25 h hs
 refine st 5 [] ?_
 obtain ⟨j28, e37, H⟩ := letJ_some H
 refine k_joinT (fun T ρ h => ∃ (x27 : Bool), ∃ I, j28 x27 = some r ∧ Fits [(1, .int .u8 x1), (2, pv b25), (5, .bool x27)] ρ ∧ St E T I h) hs tl0 ?_ ?_
 ·refine st 1 [] (k_op (lN (hs.bl d0) 0 6 ?_))
  refine st 1 [] (k_op (lB (hs.bl d0) 3 rfl ?_))
  obtain ⟨hk, bk⟩ := hs.call tk0 (.c (qB d1) .n)
  refine k_call H (fun _ m => field_Open.calls m hk) ?_
  rintro t26 _ h H ⟨I, _, ⟨rfl, rfl⟩, hk⟩
  replace hs := bk hk ct0 rfl
  cases t26
  ·rw [cond_false] at H
   exact st 3 [] (k_end ⟨true, I, H, ft, hs⟩)
  rw [cond_true] at H
  exact st 3 [] (k_end ⟨false, I, H, ft, hs⟩)
 clear H
 rintro ρ h ⟨x27, I, H, hf, hs⟩
 refine k_fits _ hf ?_ rfl
 subst e37
 try dsimp only at H
 cases x27
 rotate_left
 ·rw [cond_true] at H
  obtain rfl := si H
  exact st 6 [true] (k_retQ ⟨_, by kernel_rfl, I, _, ⟨(.iface 137 (iv 8)), rfl, rfl⟩, hs.pk (.f imEC .n)⟩)
 rw [cond_false] at H
 refine st 2 [false] ?_
 obtain ⟨j32, e36, H⟩ := letJ_some H
 refine k_joinT (fun T ρ h => ∃ (x31 : Bool), ∃ I, j32 x31 = some r ∧ Fits [(1, .int .u8 x1), (2, pv b25), (12, .bool x31)] ρ ∧ St E T I h) hs tl0 ?_ ?_
 ·refine st 2 [] (k_ite H (fun c29 H => ?_) (fun c29 H => ?_))
  ·exact st 6 [] (k_end ⟨true, I, H, ft, hs⟩)
  refine st 2 [] (k_ite H (fun c30 H => ?_) (fun c30 H => ?_))
  ·exact st 3 [] (k_end ⟨true, I, H, ft, hs⟩)
  exact st 3 [] (k_end ⟨false, I, H, ft, hs⟩)
 clear H
 rintro ρ h ⟨x31, I, H, hf, hs⟩
 refine k_fits _ hf ?_ rfl
 subst e36
 try dsimp only at H
 cases x31
 rotate_left
 ·rw [cond_true] at H
  obtain rfl := si H
  exact st 5 [true] (k_retQ ⟨_, by kernel_rfl, I, _, ⟨(.nilIface), rfl, rfl⟩, hs.pk (.f imEN .n)⟩)
 rw [cond_false] at H
 refine st 3 [false] (k_op (lN (hs.bl d0) 0 6 ?_))
 refine st 1 [] (k_op (lB (hs.bl d0) 3 rfl ?_))
 obtain ⟨hk, bk⟩ := hs.call tk0 (.c (qB d1) .n)
 refine k_call H (fun _ m => field_Of.calls m hk) ?_
 rintro t33 _ h H ⟨I, _, ⟨rfl, rfl⟩, hk⟩
 replace hs := bk hk ct0 rfl
 refine st 1 [] (k_if H (fun c34 H => ?_) (fun c34 H => ?_))
 rotate_left
 ·obtain rfl := si H
  exact st 13 [false] (k_retQ ⟨_, by kernel_rfl, I, _, ⟨(.nilIface), rfl, rfl⟩, hs.pk (.f imEN .n)⟩)
 refine st 1 [] (k_call H (fun _ m => edit_Digit.calls m) ?_)
 rintro t35 _ _ H ⟨rfl, rfl⟩
 cases t35
 ·rw [cond_false] at H
  obtain rfl := si H
  exact st 10 [true] (k_retQ ⟨_, by kernel_rfl, I, _, ⟨(.iface 137 (iv 9)), rfl, rfl⟩, hs.pk (.f imEC .n)⟩)
 rw [cond_true] at H
 obtain rfl := si H
 exact st 11 [false] (k_retQ ⟨_, by kernel_rfl, I, _, ⟨(.nilIface), rfl, rfl⟩, hs.pk (.f imEN .n)⟩)
def edit_pushed_1.m (x0 : Int) (x1 : api_Screen) : Option Bool :=
  (if 0 ≤ x0 then (if x0 < (x1.Cells.length : Int) then (some ((at_ x1.Cells x0).Char == 0)) else none) else none)
theorem edit_pushed_1.calls {B I : Gh} {h : Heap} {x0 : Int} {x1 : api_Screen} {b1 : Nat} {a21 : Option Addr} {p22 : Nat} {n23 : Nat} {r : Bool} (H : edit_pushed_1.m x0 x1 = some r)  :
    Fc Tryz.prog 291 #[iv x0, pv b1] [rL b1 [iv x1.Rows, iv x1.Cols, .slice a21 n23 p22, iv x1.Cursor, .bool x1.Locked, .bool x1.Insert] 56, rR t_api_Cell .b a21 p22 n23 x1.Cells] B I h (fun v L => v = .bool r ∧ L = []) := by
 refine fc_of fun E hs => ?_
 unfold edit_pushed_1.m at H
 cases hs.nR d1
 refine fn_of (rs := [.tmp 3]) (N := 11) Tryz.func291 rfl rfl rfl rfl ?_
 refine st 7 [] (k_op (lC (ll hs d0 (n := 2) rfl) ?_))
 obtain ⟨c25, H⟩ := guard_pos H
 obtain ⟨c26, H⟩ := guard_pos H
 refine st 1 [] (k_val (elemPtr a21 (x0.toNat * 6)) (pI (e := 89) (ik := .i64) (hs.sR d1) c25 c26) ?_)
 refine k_val (elemPtr a21 (x0.toNat * 6 + 5)) (pF (off := 5) (hs.sR d1) c25 c26) ?_
 obtain ⟨y28, g27, q29⟩ := (hs.sR d1).toSl.seg c25 c26
 obtain rfl := t_api_Cell.open_ q29
 refine k_op (lC (seg_cell (f := 5) g27 rfl) ?_)
 obtain rfl := si H
 exact st 3 [] (k_retQ ⟨_, by kernel_rfl, I, _, ⟨rfl, rfl⟩, hs.pk .n⟩)
def slices_IndexFunc_int__edit_pushed_1.l1.m (K : Nat) (x0 : (List Int)) (x2 : api_Screen) : Nat → Int → Option (Int ⊕ (Unit))
  | 0, _ => none
  | k + 1, x29 => (letJ (α := Bool → Option (Int ⊕ (Unit))) (fun (x34 : Bool) => (bif x34 then (if 0 ≤ x29 then (if x29 < (x0.length : Int) then ((edit_pushed_1.m (at_ x0 x29) x2).bind fun t38 => bif t38 then (some (Sum.inl x29)) else (slices_IndexFunc_int__edit_pushed_1.l1.m K x0 x2 k (w64 (x29 + 1)))) else none) else none) else (some (Sum.inr ())))) fun (j35 : Bool → Option (Int ⊕ (Unit))) => (if x29 < (x0.length : Int) then (j35 true) else (j35 false)))
def slices_IndexFunc_int__edit_pushed_1.m (K : Nat) (x0 : (List Int)) (x2 : api_Screen) : Option Int :=
  ((slices_IndexFunc_int__edit_pushed_1.l1.m K x0 x2 K 0).bind fun s30 => match s30 with | .inl q => (some q) | .inr _ => (some (-1)))
theorem slices_IndexFunc_int__edit_pushed_1.calls {B I : Gh} {h : Heap} {K : Nat} {x0 : (List Int)} {x2 : api_Screen} {a21 : Option Addr} {p22 : Nat} {n23 : Nat} {b2 : Nat} {a25 : Option Addr} {p26 : Nat} {n27 : Nat} {r : Int} (H : slices_IndexFunc_int__edit_pushed_1.m K x0 x2 = some r)  :
    Fc Tryz.prog 290 #[.slice a21 n23 p22, .func (.func 291) #[] #[pv b2]] [rR (tInt .i64) .b a21 p22 n23 x0, rL b2 [iv x2.Rows, iv x2.Cols, .slice a25 n27 p26, iv x2.Cursor, .bool x2.Locked, .bool x2.Insert] 56, rR t_api_Cell .b a25 p26 n27 x2.Cells] B I h (fun v L => v = iv r ∧ L = []) := by
 refine fc_of fun E hs => ?_
 unfold slices_IndexFunc_int__edit_pushed_1.m at H
 cases hs.nR d0
 cases hs.nR d2
 refine fn_of (rs := [.tmp 4]) (N := 19) Tryz.func290 rfl rfl rfl rfl ?_
 refine st 12 [] ?_
 obtain ⟨s30, m32, HR31⟩ := bind_some H
 refine k_loopT hs tl0 0 (fun T k' ρ h => ∃ (x29 : Int), ∃ I, slices_IndexFunc_int__edit_pushed_1.l1.m K x0 x2 k' x29 = some s30 ∧ Fits [(0, .slice a21 x0.length p22), (1, .func (.func 291) #[] #[pv b2]), (7, iv (x0.length : Int)), (8, iv x29)] ρ ∧ St E T I h) (fun T ρ h => ∃ I, Sum.inr () = s30 ∧ Fits [] ρ ∧ St E T I h) K ⟨0, I, m32, ft, hs⟩ ?_ rfl ?_
 rotate_left
 ·rintro ρ h ⟨I, rfl, hf, hs⟩
  have H := HR31
  try dsimp only at H
  refine k_fits _ hf ?_ rfl
  obtain rfl := si H
  exact st 4 [] (k_retQ ⟨_, by kernel_rfl, I, _, ⟨rfl, rfl⟩, hs.pk .n⟩)
 clear m32 H
 rintro k' ρ h ⟨x29, I, H, hf, hs⟩
 cases k' with
 | zero => cases H
 | succ k =>
  rw [slices_IndexFunc_int__edit_pushed_1.l1.m] at H
  refine k_fits _ hf ?_ rfl
  refine st 1 [] ?_
  obtain ⟨j35, e39, H⟩ := letJ_some H
  refine k_joinT (fun T ρ h => ∃ (x34 : Bool), ∃ I, j35 x34 = some s30 ∧ Fits [(0, .slice a21 x0.length p22), (1, .func (.func 291) #[] #[pv b2]), (7, iv (x0.length : Int)), (8, iv x29), (9, .bool x34)] ρ ∧ St E T I h) hs tl0 ?_ ?_
  ·refine st 1 [] (k_ite H (fun c33 H => ?_) (fun c33 H => ?_))
   ·exact st 1 [] (k_end ⟨true, I, H, ft, hs⟩)
   exact st 1 [] (k_end ⟨false, I, H, ft, hs⟩)
  clear H
  rintro ρ h ⟨x34, I, H, hf, hs⟩
  refine k_fits _ hf ?_ rfl
  subst e39
  try dsimp only at H
  cases x34
  ·rw [cond_false] at H
   refine st 2 [false] (k_out rfl ?_)
   obtain rfl := si H
   exact xE ⟨I, rfl, trivial, hs⟩
  rw [cond_true] at H
  obtain ⟨c36, H⟩ := guard_pos H
  obtain ⟨c37, H⟩ := guard_pos H
  refine st 15 [true] (k_val (elemPtr a21 (x29.toNat * 1)) (pI (e := 3) (ik := .i64) (hs.sR d0) c36 c37) ?_)
  refine k_op (lC ((hs.sR d0).cell1 c36 c37) ?_)
  obtain ⟨hk, bk⟩ := hs.call tk0 (.c (qLL d1) (.c (qB d2) .n))
  refine k_call H (fun _ m => edit_pushed_1.calls m hk) ?_
  rintro t38 _ h H ⟨I, _, ⟨rfl, rfl⟩, hk⟩
  replace hs := bk hk ct0 rfl
  cases t38
  ·rw [cond_false] at H
   exact st 8 [false] (k_endL ⟨k, Nat.lt_succ_self _, (w64 (x29 + 1)), I, H, ft, hs⟩)
  rw [cond_true] at H
  refine st 7 [true] (k_retQ (krL ?_))
  obtain rfl := si H
  obtain rfl := Option.some.inj HR31
  exact ⟨_, by kernel_rfl, I, _, ⟨rfl, rfl⟩, hs.pk .n⟩
def edit_pushed.l1.m (K : Nat) (x1 : (List Int)) : Nat → Int → (List api_Cell) → Option ((List api_Cell))
  | 0, _, _ => none
  | k + 1, x32, x33 => (if x32 > 0 then (if 0 ≤ x32 then (if x32 < (x1.length : Int) then (if 0 ≤ (w64 (x32 - 1)) then (if (w64 (x32 - 1)) < (x1.length : Int) then (if 0 ≤ (at_ x1 (w64 (x32 - 1))) then (if (at_ x1 (w64 (x32 - 1))) < (x33.length : Int) then (if 0 ≤ (at_ x1 x32) then (if (at_ x1 x32) < (x33.length : Int) then (edit_pushed.l1.m K x1 k (w64 (x32 - 1)) (x33.set (at_ x1 x32).toNat (⟨(at_ x33 (at_ x1 (w64 (x32 - 1)))).Field, ((at_ x33 (at_ x1 (w64 (x32 - 1)))).Attr), (at_ x33 (at_ x1 (w64 (x32 - 1)))).Char⟩ : api_Cell))) else none) else none) else none) else none) else none) else none) else none) else none) else (some (x33)))
def edit_pushed.m (K : Nat) (x0 : api_Screen) (x1 : (List Int)) : Option (Bool × (List api_Cell)) :=
  ((slices_IndexFunc_int__edit_pushed_1.m K x1 x0).bind fun t30 => (if t30 < 0 then (some (false, x0.Cells)) else ((edit_pushed.l1.m K x1 K t30 x0.Cells).bind fun x36 => (some (true, x36)))))
theorem edit_pushed.calls {B I : Gh} {h : Heap} {K : Nat} {x0 : api_Screen} {x1 : (List Int)} {a21 : Option Addr} {p22 : Nat} {n23 : Nat} {a25 : Option Addr} {p26 : Nat} {n27 : Nat} {r : (Bool × (List api_Cell))} (H : edit_pushed.m K x0 x1 = some r)  :
    Fc Tryz.prog 265 #[.agg #[iv x0.Rows, iv x0.Cols, .slice a21 n23 p22, iv x0.Cursor, .bool x0.Locked, .bool x0.Insert], .slice a25 n27 p26] [rO t_api_Cell .i a21 p22 n23 x0.Cells, rR (tInt .i64) .b a25 p26 n27 x1] B I h (fun v L => v = .bool r.1 ∧ L = [rO t_api_Cell .i a21 p22 x0.Cells.length r.2]) := by
 refine fc_of fun E hs => ?_
 unfold edit_pushed.m at H
 cases hs.nO d0
 cases hs.nR d1
 refine fn_of (rs := [.tmp 4]) (N := 33) Tryz.func265 rfl rfl rfl rfl ?_
 refine st 2 [] (k_op (nB hs [iv x0.Rows, iv x0.Cols, .slice a21 x0.Cells.length p22, iv x0.Cursor, .bool x0.Locked, .bool x0.Insert] ?_))
 intro b29 h hs
 obtain ⟨hk, bk⟩ := hs.call tk0 (.c (qB d2) (.c (qL d0) (.c (qO d1) .n)))
 refine st 6 [] (k_call H (fun _ m => slices_IndexFunc_int__edit_pushed_1.calls m hk) ?_)
 rintro t30 _ h H ⟨I, _, ⟨rfl, rfl⟩, hk⟩
 replace hs := bk hk ct0 rfl
 refine st 6 [] (k_ite H (fun c31 H => ?_) (fun c31 H => ?_))
 ·obtain rfl := si H
  exact st 6 [true] (k_retQ ⟨_, by kernel_rfl, I, _, ⟨rfl, rfl⟩, hs.pk (.c d1 .n)⟩)
 refine st 10 [false] ?_
 obtain ⟨s35, m39, HR38⟩ := bind_some H
 refine k_loop 0 (fun k' ρ h => ∃ (x32 : Int) (x33 : List api_Cell), ∃ I, edit_pushed.l1.m K x1 k' x32 x33 = some s35 ∧ Fits [(1, .slice a25 x1.length p26), (2, pv b29), (6, iv x32)] ρ ∧ St E [rO t_api_Cell .i a21 p22 x0.Cells.length x33, rB b29 [iv x0.Rows, iv x0.Cols, .slice a21 x0.Cells.length p22, iv x0.Cursor, .bool x0.Locked, .bool x0.Insert] 56, rR (tInt .i64) .b a25 p26 x1.length x1] I h) (fun ρ h => ∃ (x36 : List api_Cell), ∃ I, x36 = s35 ∧ Fits [] ρ ∧ St E [rO t_api_Cell .i a21 p22 x0.Cells.length x36, rR (tInt .i64) .b a25 p26 x1.length x1] I h) K ⟨t30, x0.Cells, I, m39, ft, hs.pk (.c d1 (.c d0 (.c d0 .n)))⟩ ?_ rfl ?_
 rotate_left
 ·rintro ρ h ⟨x36, I, rfl, hf, hs⟩
  have H := HR38
  try dsimp only at H
  refine k_fits _ hf ?_ rfl
  obtain rfl := si H
  exact st 4 [] (k_retQ ⟨_, by kernel_rfl, I, _, ⟨rfl, rfl⟩, hs.pk (.c d0 .n)⟩)
 clear HR38 m39 H
 rintro k' ρ h ⟨x32, x33, I, H, hf, hs⟩
 cases k' with
 | zero => cases H
 | succ k =>
  rw [edit_pushed.l1.m] at H
  refine k_fits _ hf ?_ rfl
  refine st 4 [] (k_ite H (fun c40 H => ?_) (fun c40 H => ?_))
  rotate_left
  ·refine st 2 [false] (k_out rfl ?_)
   obtain rfl := si H
   exact xE ⟨x33, I, rfl, trivial, hs.pk (.c d0 (.c d1 .n))⟩
  refine st 5 [true] ?_
  obtain ⟨hs0, bk0⟩ := hs.call tk0 (.c (qL d1) (.c (qB d2) (.c (qO d0) .n)))
  have hs := hs0
  refine k_regD hs0 16 ?_
  refine aRun [0] 16 hs.keep ?_
  refine aL 1 rfl hs.keep (ll hs0 d0 (n := 2) rfl) (nmL hs0 d0) ?_
  obtain ⟨c41, H⟩ := guard_pos H
  obtain ⟨c42, H⟩ := guard_pos H
  refine aRun [2, 3] 13 hs.keep ?_
  refine aP 4 (elemPtr a25 (x32.toNat * 1)) rfl (pI (e := 3) (ik := .i64) (hs.sR d1) c41 c42) hs.keep ?_
  refine aL 5 rfl hs.keep ((hs0.sR d1).cell1 c41 c42) (nmR hs0 d1 c41 c42) ?_
  refine aRun [6] 10 hs.keep ?_
  refine aL 7 rfl hs.keep (ll hs0 d0 (n := 2) rfl) (nmL hs0 d0) ?_
  obtain ⟨c43, H⟩ := guard_pos H
  obtain ⟨c44, H⟩ := guard_pos H
  refine aRun [8, 9, 10] 6 hs.keep ?_
  refine aP 11 (elemPtr a25 ((w64 (x32 - 1)).toNat * 1)) rfl (pI (e := 3) (ik := .i64) (hs.sR d1) c43 c44) hs.keep ?_
  refine aL 12 rfl hs.keep ((hs0.sR d1).cell1 c43 c44) (nmR hs0 d1 c43 c44) ?_
  obtain ⟨c45, H⟩ := guard_pos H
  obtain ⟨c46, H⟩ := guard_pos H
  refine aP 13 (elemPtr a21 ((at_ x1 (w64 (x32 - 1))).toNat * 6)) rfl (pI (e := 89) (ik := .i64) (hs.sR d2) c45 c46) hs.keep ?_
  obtain ⟨y48, g47, q49⟩ := (hs0.sR d2).toSl.seg c45 c46
  obtain rfl := t_api_Cell.open_ q49
  refine aG 14 rfl hs.keep g47 (nmR hs0 d2 c45 c46) ?_
  obtain ⟨c50, H⟩ := guard_pos H
  obtain ⟨c51, H⟩ := guard_pos H
  refine aP 15 (elemPtr a21 ((at_ x1 x32).toNat * 6)) rfl (pI (e := 89) (ik := .i64) (hs.sR d2) c50 c51) hs.keep ?_
  replace hs := hs.pk .n
  replace hs := bk0 hs ct0 rfl
  obtain ⟨y53, g52, q54⟩ := (hs.sO d0).toSl.seg c50 c51
  obtain rfl := t_api_Cell.open_ q54
  refine aOL 16 rfl (sE hs 0 [.bool ((at_ x33 (at_ x1 (w64 (x32 - 1)))).Field), .bool (((at_ x33 (at_ x1 (w64 (x32 - 1)))).Attr).Protected), .bool (((at_ x33 (at_ x1 (w64 (x32 - 1)))).Attr).Numeric), iv (((at_ x33 (at_ x1 (w64 (x32 - 1)))).Attr).Show), .bool (((at_ x33 (at_ x1 (w64 (x32 - 1)))).Attr).Modified), .int .u8 ((at_ x33 (at_ x1 (w64 (x32 - 1)))).Char)] (⟨(at_ x33 (at_ x1 (w64 (x32 - 1)))).Field, ((at_ x33 (at_ x1 (w64 (x32 - 1)))).Attr), (at_ x33 (at_ x1 (w64 (x32 - 1)))).Char⟩ : api_Cell) c50 c51 g52 (ones_of rfl) rfl ?_)
  intro h hs
  refine aEnd ?_
  exact st 6 [] (k_endL ⟨k, Nat.lt_succ_self _, (w64 (x32 - 1)), (x33.set (at_ x1 x32).toNat (⟨(at_ x33 (at_ x1 (w64 (x32 - 1)))).Field, ((at_ x33 (at_ x1 (w64 (x32 - 1)))).Attr), (at_ x33 (at_ x1 (w64 (x32 - 1)))).Char⟩ : api_Cell)), I, H, ft, hs.pk (.c d0 (.c d0 (.c d0 .n)))⟩)
def edit_onward.m (K : Nat) (x0 : api_Screen) : Option Int :=
  ((grid_On.m x0 x0.Cursor 1).bind fun t26 => (if 0 ≤ t26 then (if t26 < (x0.Cells.length : Int) then (bif (at_ x0.Cells t26).Field then (bif ((at_ x0.Cells t26).Attr).Protected then (bif ((at_ x0.Cells t26).Attr).Numeric then ((field_Next.m K x0 t26).bind fun t36 => (if t36 ≥ 0 then (some t36) else ((grid_On.m x0 t26 1).bind fun t38 => (some t38)))) else ((grid_On.m x0 t26 1).bind fun t39 => (some t39))) else ((grid_On.m x0 t26 1).bind fun t40 => (some t40))) else (some t26)) else none) else none))
theorem edit_onward.calls {B I : Gh} {h : Heap} {K : Nat} {x0 : api_Screen} {a21 : Option Addr} {p22 : Nat} {n23 : Nat} {r : Int} (H : edit_onward.m K x0 = some r)  :
    Fc Tryz.prog 266 #[.agg #[iv x0.Rows, iv x0.Cols, .slice a21 n23 p22, iv x0.Cursor, .bool x0.Locked, .bool x0.Insert]] [rR t_api_Cell .b a21 p22 n23 x0.Cells] B I h (fun v L => v = iv r ∧ L = []) := by
 refine fc_of fun E hs => ?_
 unfold edit_onward.m at H
 cases hs.nR d0
 refine fn_of (rs := [.tmp 2]) (N := 36) Tryz.func266 rfl rfl rfl rfl ?_
 refine st 2 [] (k_op (nB hs [iv x0.Rows, iv x0.Cols, .slice a21 x0.Cells.length p22, iv x0.Cursor, .bool x0.Locked, .bool x0.Insert] ?_))
 intro b25 h hs
 refine st 4 [] (k_op (lN (hs.bl d0) 0 6 ?_))
 refine st 1 [] (k_op (lB (hs.bl d0) 3 rfl ?_))
 obtain ⟨hk, bk⟩ := hs.call tk0 (.c (qB d1) .n)
 refine k_call H (fun _ m => grid_On.calls m hk) ?_
 rintro t26 _ h H ⟨I, _, ⟨rfl, rfl⟩, hk⟩
 replace hs := bk hk ct0 rfl
 refine st 5 [] (k_op (lB (hs.bl d0) 2 rfl ?_))
 obtain ⟨c27, H⟩ := guard_pos H
 obtain ⟨c28, H⟩ := guard_pos H
 refine st 1 [] (k_val (elemPtr a21 (t26.toNat * 6)) (pI (e := 89) (ik := .i64) (hs.sR d1) c27 c28) ?_)
 obtain ⟨y30, g29, q31⟩ := (hs.sR d1).toSl.seg c27 c28
 obtain rfl := t_api_Cell.open_ q31
 refine k_op (lG g29 ?_)
 refine k_op (nA hs [.bool false, .bool false, .bool false, iv 0, .bool false, .int .u8 0] (.agg #[.bool false, .bool false, .bool false, iv 0, .bool false, .int .u8 0]) ?_)
 intro b32 h hs
 refine k_op (sN0 hs [.bool ((at_ x0.Cells t26).Field), .bool (((at_ x0.Cells t26).Attr).Protected), .bool (((at_ x0.Cells t26).Attr).Numeric), iv (((at_ x0.Cells t26).Attr).Show), .bool (((at_ x0.Cells t26).Attr).Modified), .int .u8 ((at_ x0.Cells t26).Char)] (ones_of rfl) ?_)
 intro h hs
 refine st 5 [] (k_op (lB (hs.bl d0) 0 rfl ?_))
 refine k_spl H (fun c33 H => ?_) (fun c33 H => ?_)
 rotate_left
 ·obtain rfl := si H
  exact st 8 [true] (k_retQ ⟨_, by kernel_rfl, I, _, ⟨rfl, rfl⟩, hs.pk .n⟩)
 refine st 9 [false] (k_op (lB (hs.bl d0) 1 rfl ?_))
 refine k_spl H (fun c34 H => ?_) (fun c34 H => ?_)
 rotate_left
 ·refine st 10 [false] (k_op (lN (hs.bl d1) 0 6 ?_))
  obtain ⟨hk, bk⟩ := hs.call tk0 (.c (qB d2) .n)
  refine st 1 [] (k_call H (fun _ m => grid_On.calls m hk) ?_)
  rintro t40 _ h H ⟨I, _, ⟨rfl, rfl⟩, hk⟩
  replace hs := bk hk ct0 rfl
  obtain rfl := si H
  exact st 2 [] (k_retQ ⟨_, by kernel_rfl, I, _, ⟨rfl, rfl⟩, hs.pk .n⟩)
 refine st 3 [] (k_op (lB (hs.bl d0) 2 rfl ?_))
 refine k_spl H (fun c35 H => ?_) (fun c35 H => ?_)
 rotate_left
 ·refine st 6 [false] (k_op (lN (hs.bl d1) 0 6 ?_))
  obtain ⟨hk, bk⟩ := hs.call tk0 (.c (qB d2) .n)
  refine st 1 [] (k_call H (fun _ m => grid_On.calls m hk) ?_)
  rintro t39 _ h H ⟨I, _, ⟨rfl, rfl⟩, hk⟩
  replace hs := bk hk ct0 rfl
  obtain rfl := si H
  exact st 2 [] (k_retQ ⟨_, by kernel_rfl, I, _, ⟨rfl, rfl⟩, hs.pk .n⟩)
 refine st 5 [true] (k_op (lN (hs.bl d1) 0 6 ?_))
 obtain ⟨hk, bk⟩ := hs.call tk0 (.c (qB d2) .n)
 refine st 1 [] (k_call H (fun _ m => field_Next.calls m hk) ?_)
 rintro t36 _ h H ⟨I, _, ⟨rfl, rfl⟩, hk⟩
 replace hs := bk hk ct0 rfl
 refine st 5 [] (k_ite H (fun c37 H => ?_) (fun c37 H => ?_))
 ·obtain rfl := si H
  exact st 7 [true] (k_retQ ⟨_, by kernel_rfl, I, _, ⟨rfl, rfl⟩, hs.pk .n⟩)
 refine st 5 [false] (k_op (lN (hs.bl d1) 0 6 ?_))
 obtain ⟨hk, bk⟩ := hs.call tk0 (.c (qB d2) .n)
 refine st 1 [] (k_call H (fun _ m => grid_On.calls m hk) ?_)
 rintro t38 _ h H ⟨I, _, ⟨rfl, rfl⟩, hk⟩
 replace hs := bk hk ct0 rfl
 obtain rfl := si H
 exact st 2 [] (k_retQ ⟨_, by kernel_rfl, I, _, ⟨rfl, rfl⟩, hs.pk .n⟩)
def attr_Char.m (x0 : Int) : Option Bool :=
  (if x0 = 0 then (some true) else (if x0 = 28 then (some true) else (if x0 = 30 then (some true) else (if x0 ≥ 64 then (some (x0 != 255)) else (some false)))))
theorem attr_Char.calls {x0 : Int} {h : Heap} {r : Bool} (H : attr_Char.m x0 = some r)   :
    Ret Tryz.prog 114 #[.int .u8 x0] h (fun v h' => .bool r = v ∧ h' = h) := by
 unfold attr_Char.m at H
 refine fn_of (rs := [.tmp 2]) (N := 15) Tryz.func114 rfl rfl rfl rfl ?_
 refine st 17 [] (k_ite H (fun c21 H => ?_) (fun c21 H => ?_))
 ·obtain rfl := si H
  exact st 10 [true] (k_retQ ⟨_, by kernel_rfl, rfl, rfl⟩)
 refine st 7 [false] (k_ite H (fun c22 H => ?_) (fun c22 H => ?_))
 ·obtain rfl := si H
  exact st 11 [true, true] (k_retQ ⟨_, by kernel_rfl, rfl, rfl⟩)
 refine st 4 [false] (k_ite H (fun c23 H => ?_) (fun c23 H => ?_))
 ·obtain rfl := si H
  exact st 9 [true] (k_retQ ⟨_, by kernel_rfl, rfl, rfl⟩)
 refine st 8 [false] (k_ite H (fun c24 H => ?_) (fun c24 H => ?_))
 ·obtain rfl := si H
  exact st 6 [] (k_retQ ⟨_, by kernel_rfl, rfl, rfl⟩)
 obtain rfl := si H
 exact st 6 [] (k_retQ ⟨_, by kernel_rfl, rfl, rfl⟩)
def edit_Type.m (K : Nat) (x0 : api_Screen) (x1 : Int) : Option (api_Screen × GoErr) :=
  (letJ (α := Bool → Option (api_Screen × GoErr)) (fun (x29 : Bool) => (bif x29 then (some (x0, (GoErr.no 3))) else (bif x0.Locked then (some (x0, (GoErr.no 7))) else ((edit_fits.m K x0 x1).bind fun t32 => (if t32 = GoErr.nil then ((edit_Modify.m K x0 x0.Cursor).bind fun t38 => (letJ (α := (List api_Cell) → Option (api_Screen × GoErr)) (fun (x59 : List api_Cell) => (if 0 ≤ x0.Cursor then (if x0.Cursor < (x59.length : Int) then ((edit_onward.m K (⟨t38.Rows, t38.Cols, (x59.set x0.Cursor.toNat (⟨false, (⟨false, false, 0, false⟩ : api_Attr), x1⟩ : api_Cell)), t38.Cursor, t38.Locked, t38.Insert⟩ : api_Screen)).bind fun t70 => (some ((⟨t38.Rows, t38.Cols, (x59.set x0.Cursor.toNat (⟨false, (⟨false, false, 0, false⟩ : api_Attr), x1⟩ : api_Cell)), t70, t38.Locked, t38.Insert⟩ : api_Screen), GoErr.nil))) else none) else none)) fun (j64 : (List api_Cell) → Option (api_Screen × GoErr)) => (bif x0.Insert then ((edit_Line.m K x0 x0.Cursor).bind fun t45 => ((edit_pushed.m K t38 t45).bind fun t50 => bif t50.1 then (j64 t50.2) else ((edit_Deny.m x0 (GoErr.no 10)).bind fun t52 => (some (t52.1, t52.2))))) else (j64 t38.Cells)))) else ((edit_Deny.m x0 t32).bind fun t72 => (some (t72.1, t72.2)))))))) fun (j30 : Bool → Option (api_Screen × GoErr)) => (if x1 = 0 then (j30 true) else ((attr_Char.m x1).bind fun t28 => bif t28 then (j30 false) else (j30 true))))
theorem edit_Type.calls {B I : Gh} {h : Heap} {K : Nat} {x0 : api_Screen} {x1 : Int} {a21 : Option Addr} {p22 : Nat} {n23 : Nat} {r : (api_Screen × GoErr)} (H : edit_Type.m K x0 x1 = some r)  :
    Fc Tryz.prog 229 #[.agg #[iv x0.Rows, iv x0.Cols, .slice a21 n23 p22, iv x0.Cursor, .bool x0.Locked, .bool x0.Insert], .int .u8 x1] [rR t_api_Cell .i a21 p22 n23 x0.Cells] B I h (fun v L => ∃ a80 p81 n82 v84, v = .tuple #[.agg #[iv r.1.Rows, iv r.1.Cols, .slice a80 n82 p81, iv r.1.Cursor, .bool r.1.Locked, .bool r.1.Insert], v84] ∧ L = [rR t_api_Cell .i a80 p81 n82 r.1.Cells, rE .i v84 r.2]) := by
 refine fc_of fun E hs => ?_
 unfold edit_Type.m at H
 cases hs.nR d0
 refine fn_of2 (rs := [.cell 4 56, .tmp 5]) (N := 64) Tryz.func229 rfl rfl rfl rfl ?_
 refine st 2 [] (k_op (nB hs [iv x0.Rows, iv x0.Cols, .slice a21 x0.Cells.length p22, iv x0.Cursor, .bool x0.Locked, .bool x0.Insert] ?_))
 intro b25 h hs
 refine k_op (nA hs [iv 0, iv 0, .slice none 0 0, iv 0, .bool false, .bool false] (.agg #[iv 0, iv 0, .slice none 0 0, iv 0, .bool false, .bool false]) ?_)
 intro b26 h hs
 refine st 5 [] ?_
 obtain ⟨j30, e79, H⟩ := letJ_some H
 refine k_joinT (fun T ρ h => ∃ (x29 : Bool), ∃ I, j30 x29 = some r ∧ Fits [(1, .int .u8 x1), (2, pv b25), (4, pv b26), (8, .bool x29)] ρ ∧ St E T I h) hs tl0 ?_ ?_
 ·refine st 2 [] (k_ite H (fun c27 H => ?_) (fun c27 H => ?_))
  ·exact st 7 [] (k_end ⟨true, I, H, ft, hs⟩)
  refine st 2 [] (k_call H (fun _ m => attr_Char.calls m) ?_)
  rintro t28 _ _ H ⟨rfl, rfl⟩
  cases t28
  ·rw [cond_false] at H
   exact st 4 [] (k_end ⟨true, I, H, ft, hs⟩)
  rw [cond_true] at H
  exact st 4 [] (k_end ⟨false, I, H, ft, hs⟩)
 clear H
 rintro ρ h ⟨x29, I, H, hf, hs⟩
 refine k_fits _ hf ?_ rfl
 subst e79
 try dsimp only at H
 cases x29
 rotate_left
 ·rw [cond_true] at H
  refine st 3 [true] (k_op (lN (hs.bl d1) 0 6 ?_))
  refine st 1 [] (k_op (sN0 hs [iv x0.Rows, iv x0.Cols, .slice a21 x0.Cells.length p22, iv x0.Cursor, .bool x0.Locked, .bool x0.Insert] (ones_of rfl) ?_))
  intro h hs
  obtain rfl := si H
  exact st 2 [] (k_retQ ⟨[.agg #[iv x0.Rows, iv x0.Cols, .slice a21 x0.Cells.length p22, iv x0.Cursor, .bool x0.Locked, .bool x0.Insert], .iface 137 (iv 3)], (.cons (.agg (by kernel_rfl) (by kernel_rfl) (by kernel_rfl) ((hs.bl d0).seg_ 0 6 (Nat.le_of_ble_eq_true rfl))) (.cons (.tmp (by kernel_rfl)) .nil)), I, _, ⟨a21, p22, x0.Cells.length, (.iface 137 (iv 3)), rfl, rfl⟩, hs.pk (.c d2 (.f imEC .n))⟩)
 rw [cond_false] at H
 refine st 4 [false] (k_op (lB (hs.bl d1) 4 rfl ?_))
 refine k_spl H (fun c31 H => ?_) (fun c31 H => ?_)
 ·refine st 5 [true] (k_op (lN (hs.bl d1) 0 6 ?_))
  refine st 1 [] (k_op (sN0 hs [iv x0.Rows, iv x0.Cols, .slice a21 x0.Cells.length p22, iv x0.Cursor, .bool x0.Locked, .bool x0.Insert] (ones_of rfl) ?_))
  intro h hs
  obtain rfl := si H
  exact st 2 [] (k_retQ ⟨[.agg #[iv x0.Rows, iv x0.Cols, .slice a21 x0.Cells.length p22, iv x0.Cursor, .bool x0.Locked, .bool x0.Insert], .iface 137 (iv 7)], (.cons (.agg (by kernel_rfl) (by kernel_rfl) (by kernel_rfl) ((hs.bl d0).seg_ 0 6 (Nat.le_of_ble_eq_true rfl))) (.cons (.tmp (by kernel_rfl)) .nil)), I, _, ⟨a21, p22, x0.Cells.length, (.iface 137 (iv 7)), rfl, rfl⟩, hs.pk (.c d2 (.f imEC .n))⟩)
 refine st 8 [false] (k_op (lN (hs.bl d1) 0 6 ?_))
 obtain ⟨hk, bk⟩ := hs.call tk0 (.c (qI d2) .n)
 refine st 1 [] (k_call H (fun _ m => edit_fits.calls m hk) ?_)
 rintro t32 v33 h H ⟨I, _, ⟨_, rfl, rfl⟩, hk⟩
 replace hs := bk hk ct1 rfl
 rcases (hs.er d0).cases with ⟨c35, rfl⟩ | ⟨c35, t36, u37, rfl⟩
 rotate_left
 ·rw [if_neg c35] at H
  refine st 10 [true] (k_op (lN (hs.bl d2) 0 6 ?_))
  obtain ⟨hk, bk⟩ := hs.call tk0 (.c (qI d3) (.c (xK d0) .n))
  refine st 1 [] (k_call H (fun _ m => edit_Deny.calls m hk) ?_)
  rintro t72 _ h H ⟨I, _, ⟨a73, p74, n75, v77, rfl, rfl⟩, hk⟩
  replace hs := bk hk ct2 rfl
  cases hs.nO d0
  refine st 2 [] (k_op (sN0 (hs.f d3) [iv t72.1.Rows, iv t72.1.Cols, .slice a73 t72.1.Cells.length p74, iv t72.1.Cursor, .bool t72.1.Locked, .bool t72.1.Insert] (ones_of rfl) ?_))
  intro h hs
  obtain rfl := si H
  obtain ⟨I, hs⟩ := (hs.f d1).fO
  exact st 2 [] (k_retQ ⟨[.agg #[iv t72.1.Rows, iv t72.1.Cols, .slice a73 t72.1.Cells.length p74, iv t72.1.Cursor, .bool t72.1.Locked, .bool t72.1.Insert], v77], (.cons (.agg (by kernel_rfl) (by kernel_rfl) (by kernel_rfl) ((hs.bl d1).seg_ 0 6 (Nat.le_of_ble_eq_true rfl))) (.cons (.tmp (by kernel_rfl)) .nil)), I, _, ⟨a73, p74, t72.1.Cells.length, (v77), rfl, rfl⟩, hs.pk (.c d0 (.c d1 .n))⟩)
 rw [if_pos c35] at H
 refine st 11 [false] (k_op (lN (hs.bl d2) 0 6 ?_))
 refine st 1 [] (k_op (lB (hs.bl d2) 3 rfl ?_))
 obtain ⟨hk, bk⟩ := hs.call tk0 (.c (qI d3) .n)
 refine k_call H (fun _ m => edit_Modify.calls m hk) ?_
 rintro t38 _ h H ⟨I, _, ⟨a39, p40, n41, rfl, rfl⟩, hk⟩
 replace hs := bk hk ct1 rfl
 cases hs.nO d0
 refine k_op (nA hs [iv 0, iv 0, .slice none 0 0, iv 0, .bool false, .bool false] (.agg #[iv 0, iv 0, .slice none 0 0, iv 0, .bool false, .bool false]) ?_)
 intro b43 h hs
 refine k_op (sN0 hs [iv t38.Rows, iv t38.Cols, .slice a39 t38.Cells.length p40, iv t38.Cursor, .bool t38.Locked, .bool t38.Insert] (ones_of rfl) ?_)
 intro h hs
 refine st 2 [] ?_
 obtain ⟨j64, e71, H⟩ := letJ_some H
 refine k_joinT (fun T ρ h => ∃ (x59 : List api_Cell), ∃ a60 p61 n62 I, j64 x59 = some r ∧ Fits [(1, .int .u8 x1), (2, pv b25), (4, pv b26), (7, pv b43)] ρ ∧ St E (rO t_api_Cell .i a60 p61 n62 x59 :: rB b43 [iv t38.Rows, iv t38.Cols, .slice a60 n62 p61, iv t38.Cursor, .bool t38.Locked, .bool t38.Insert] 56 :: T) I h) hs tl2 ?_ ?_
 rotate_left
 ·clear H
  rintro ρ h ⟨x59, a60, p61, n62, I, H, hf, hs⟩
  refine k_fits _ hf ?_ rfl
  subst e71
  try dsimp only at H
  cases hs.nO d0
  refine st 3 [] (k_op (lB (hs.bl d1) 2 rfl ?_))
  refine st 1 [] (k_op (lB (hs.bl d4) 3 rfl ?_))
  obtain ⟨c65, H⟩ := guard_pos H
  obtain ⟨c66, H⟩ := guard_pos H
  refine st 2 [] (k_val (elemPtr a60 (x0.Cursor.toNat * 6)) (pI (e := 89) (ik := .i64) (hs.sO d0) c65 c66) ?_)
  obtain ⟨y68, g67, q69⟩ := (hs.sO d0).toSl.seg c65 c66
  obtain rfl := t_api_Cell.open_ q69
  refine k_op (sE hs 0 [.bool false, .bool false, .bool false, iv 0, .bool false, .int .u8 x1] (⟨false, (⟨false, false, 0, false⟩ : api_Attr), x1⟩ : api_Cell) c65 c66 g67 (ones_of rfl) rfl ?_)
  intro h hs
  refine st 3 [] (k_op (lN (hs.bl d1) 0 6 ?_))
  obtain ⟨hk, bk⟩ := hs.call tk0 (.c (qO d0) .n)
  refine k_call H (fun _ m => edit_onward.calls m hk) ?_
  rintro t70 _ h H ⟨I, _, ⟨rfl, rfl⟩, hk⟩
  replace hs := bk hk ct0 rfl
  refine st 1 [] (k_op (sB (v := iv t70) (hs.f d1) cw3 ?_))
  intro h hs
  refine st 3 [] (k_op (lN (hs.bl d0) 0 6 ?_))
  refine k_op (sN0 (hs.f d3) [iv t38.Rows, iv t38.Cols, .slice a60 x59.length p61, iv t70, .bool t38.Locked, .bool t38.Insert] (ones_of rfl) ?_)
  intro h hs
  obtain rfl := si H
  obtain ⟨I, hs⟩ := (hs.f d2).fO
  exact st 2 [] (k_retQ ⟨[.agg #[iv t38.Rows, iv t38.Cols, .slice a60 x59.length p61, iv t70, .bool t38.Locked, .bool t38.Insert], .nilIface], (.cons (.agg (by kernel_rfl) (by kernel_rfl) (by kernel_rfl) ((hs.bl d1).seg_ 0 6 (Nat.le_of_ble_eq_true rfl))) (.cons (.tmp (by kernel_rfl)) .nil)), I, _, ⟨a60, p61, x59.length, (.nilIface), rfl, rfl⟩, hs.pk (.c d0 (.f imEN .n))⟩)
 refine st 1 [] ?_
 obtain ⟨hs0, bk0⟩ := (hs.f d1).call tk1 (.c (qL d3) (.c (qL d0) (.c (qK d4) .n)))
 have hs := hs0
 refine k_regD hs0 11 ?_
 refine aRun [0] 10 hs.keep ?_
 refine aL 1 rfl hs.keep (ll hs0 d1 (n := 5) rfl) (nmL hs0 d1) ?_
 rcases bool_or x0.Insert with c44 | c44
 ·replace H := bif_f c44 H
  refine a_known c44 ?_
  refine aRun [2, 3, 4, 5, 6, 7, 8, 9, 10] 0 hs.keep ?_
  replace hs := hs.pk (.c d0 .n)
  replace hs := bk0 hs ct1 rfl
  refine aEnd ?_
  exact st 2 [false] (k_end ⟨t38.Cells, a39, p40, t38.Cells.length, I, H, ft, hs.pk (.c d0 (.c d0 pk0))⟩)
 replace H := bif_t c44 H
 refine a_known c44 ?_
 refine aRun [2] 8 hs.keep ?_
 refine aG 3 rfl hs.keep (lls hs0 d2 0 6 rfl) (nmL hs0 d2) ?_
 refine aG 4 rfl hs.keep (lls hs0 d1 0 6 rfl) (nmL hs0 d1) ?_
 refine aRun [5] 5 hs.keep ?_
 refine aL 6 rfl hs.keep (ll hs0 d1 (n := 3) rfl) (nmL hs0 d1) ?_
 obtain ⟨hk, bk⟩ := hs.call tk0 (.c (qI d3) .n)
 refine aO1 7 rfl (o_call H (fun _ m => edit_Line.calls m hk) ?_)
 rintro t45 _ h H ⟨I, _, ⟨a46, p47, n48, rfl, rfl⟩, hk⟩
 replace hs := bk hk ct1 rfl
 cases hs.nO d0
 refine ⟨hs.keep, ?_⟩
 obtain ⟨hk, bk⟩ := (hs.f d1).call tk1 (.c (qO d0) .n)
 refine aO1 8 rfl (o_call H (fun _ m => edit_pushed.calls m hk) ?_)
 rintro t50 _ h H ⟨I, _, ⟨rfl, rfl⟩, hk⟩
 replace hs := bk hk ct1 rfl
 refine ⟨hs.keep, ?_⟩
 rcases bool_or t50.1 with c51 | c51
 rotate_left
 ·replace H := bif_t c51 H
  refine a_known c51 ?_
  refine aRun [9, 10] 0 hs.keep ?_
  replace hs := hs.pk (.c d0 (.c d0 .n))
  replace hs := bk0 hs ct2 rfl
  refine aEnd ?_
  exact st 2 [false] (k_end ⟨t50.2, a39, p40, t38.Cells.length, I, H, ft, hs.pk (.c d0 (.c d1 pk1))⟩)
 replace H := bif_f c51 H
 refine a_known c51 ?_
 refine aRun [9, 10] 0 hs.keep ?_
 replace hs := hs.pk (.c d0 (.c d0 .n))
 replace hs := bk0 hs ct2 rfl
 refine aEnd ?_
 refine st 3 [true] (k_op (lN (hs.bl d5) 0 6 ?_))
 obtain ⟨hk, bk⟩ := hs.call tk0 (.c (qI d6) (.c xC .n))
 refine st 1 [] (k_call H (fun _ m => edit_Deny.calls m hk) ?_)
 rintro t52 _ h H ⟨I, _, ⟨a53, p54, n55, v57, rfl, rfl⟩, hk⟩
 replace hs := bk hk ct2 rfl
 cases hs.nO d0
 refine st 2 [] (k_op (sN0 (hs.f d6) [iv t52.1.Rows, iv t52.1.Cols, .slice a53 t52.1.Cells.length p54, iv t52.1.Cursor, .bool t52.1.Locked, .bool t52.1.Insert] (ones_of rfl) ?_))
 intro h hs
 obtain rfl := si H
 obtain ⟨I, hs⟩ := (hs.f d1).fO
 exact st 2 [] (k_retQ (krJ ⟨[.agg #[iv t52.1.Rows, iv t52.1.Cols, .slice a53 t52.1.Cells.length p54, iv t52.1.Cursor, .bool t52.1.Locked, .bool t52.1.Insert], v57], (.cons (.agg (by kernel_rfl) (by kernel_rfl) (by kernel_rfl) ((hs.bl d1).seg_ 0 6 (Nat.le_of_ble_eq_true rfl))) (.cons (.tmp (by kernel_rfl)) .nil)), I, _, ⟨a53, p54, t52.1.Cells.length, (v57), rfl, rfl⟩, hs.pk (.c d0 (.c d1 .n))⟩))
def keys_dup.m (K : Nat) (x0 : api_Screen) : Option (api_Screen × GoErr) :=
  ((edit_Type.m K x0 28).bind fun t27 => (if t27.2 = GoErr.nil then ((field_Next.m K t27.1 x0.Cursor).bind fun t38 => (some ((⟨t27.1.Rows, t27.1.Cols, t27.1.Cells, (mx 0 t38), t27.1.Locked, t27.1.Insert⟩ : api_Screen), GoErr.nil))) else (some (t27.1, t27.2))))
theorem keys_dup.calls {B I : Gh} {h : Heap} {K : Nat} {x0 : api_Screen} {a21 : Option Addr} {p22 : Nat} {n23 : Nat} {r : (api_Screen × GoErr)} (H : keys_dup.m K x0 = some r)  :
    Fc Tryz.prog 230 #[.agg #[iv x0.Rows, iv x0.Cols, .slice a21 n23 p22, iv x0.Cursor, .bool x0.Locked, .bool x0.Insert]] [rR t_api_Cell .i a21 p22 n23 x0.Cells] B I h (fun v L => ∃ a39 p40 n41 v43, v = .tuple #[.agg #[iv r.1.Rows, iv r.1.Cols, .slice a39 n41 p40, iv r.1.Cursor, .bool r.1.Locked, .bool r.1.Insert], v43] ∧ L = [rR t_api_Cell .i a39 p40 n41 r.1.Cells, rE .i v43 r.2]) := by
 refine fc_of fun E hs => ?_
 unfold keys_dup.m at H
 cases hs.nR d0
 refine fn_of2 (rs := [.cell 2 56, .tmp 3]) (N := 22) Tryz.func230 rfl rfl rfl rfl ?_
 refine st 2 [] (k_op (nB hs [iv x0.Rows, iv x0.Cols, .slice a21 x0.Cells.length p22, iv x0.Cursor, .bool x0.Locked, .bool x0.Insert] ?_))
 intro b25 h hs
 refine k_op (nA hs [iv 0, iv 0, .slice none 0 0, iv 0, .bool false, .bool false] (.agg #[iv 0, iv 0, .slice none 0 0, iv 0, .bool false, .bool false]) ?_)
 intro b26 h hs
 refine st 4 [] (k_op (lN (hs.bl d1) 0 6 ?_))
 obtain ⟨hk, bk⟩ := hs.call tk0 (.c (qK d2) .n)
 refine k_call H (fun _ m => edit_Type.calls m hk) ?_
 rintro t27 _ h H ⟨I, _, ⟨a28, p29, n30, v32, rfl, rfl⟩, hk⟩
 replace hs := bk hk ct2 rfl
 cases hs.nR d0
 refine st 3 [] (k_op (nA hs [iv 0, iv 0, .slice none 0 0, iv 0, .bool false, .bool false] (.agg #[iv 0, iv 0, .slice none 0 0, iv 0, .bool false, .bool false]) ?_))
 intro b34 h hs
 refine k_op (sN0 hs [iv t27.1.Rows, iv t27.1.Cols, .slice a28 t27.1.Cells.length p29, iv t27.1.Cursor, .bool t27.1.Locked, .bool t27.1.Insert] (ones_of rfl) ?_)
 intro h hs
 rcases (hs.er d2).cases with ⟨c35, rfl⟩ | ⟨c35, t36, u37, rfl⟩
 rotate_left
 ·rw [if_neg c35] at H
  refine st 11 [true] (k_op (lN (hs.bl d0) 0 6 ?_))
  refine st 1 [] (k_op (sN0 (hs.f d3) [iv t27.1.Rows, iv t27.1.Cols, .slice a28 t27.1.Cells.length p29, iv t27.1.Cursor, .bool t27.1.Locked, .bool t27.1.Insert] (ones_of rfl) ?_))
  intro h hs
  obtain rfl := si H
  exact st 2 [] (k_retQ ⟨[.agg #[iv t27.1.Rows, iv t27.1.Cols, .slice a28 t27.1.Cells.length p29, iv t27.1.Cursor, .bool t27.1.Locked, .bool t27.1.Insert], (.iface t36 u37)], (.cons (.agg (by kernel_rfl) (by kernel_rfl) (by kernel_rfl) ((hs.bl d0).seg_ 0 6 (Nat.le_of_ble_eq_true rfl))) (.cons (.tmp (by kernel_rfl)) .nil)), I, _, ⟨a28, p29, t27.1.Cells.length, ((.iface t36 u37)), rfl, rfl⟩, hs.pk (.c d2 (.c d2 .n))⟩)
 rw [if_pos c35] at H
 refine st 12 [false] (k_op (lN (hs.bl d0) 0 6 ?_))
 refine st 1 [] (k_op (lB (hs.bl d4) 3 rfl ?_))
 obtain ⟨hk, bk⟩ := hs.call tk0 (.c (qI d1) .n)
 refine k_call H (fun _ m => field_Next.calls m hk) ?_
 rintro t38 _ h H ⟨I, _, ⟨rfl, rfl⟩, hk⟩
 replace hs := bk hk ct0 rfl
 refine st 2 [] (k_op (sB (v := iv (mx 0 t38)) hs cw3 ?_))
 intro h hs
 refine st 3 [] (k_op (lN (hs.bl d0) 0 6 ?_))
 refine k_op (sN0 (hs.f d3) [iv t27.1.Rows, iv t27.1.Cols, .slice a28 t27.1.Cells.length p29, iv (mx 0 t38), .bool t27.1.Locked, .bool t27.1.Insert] (ones_of rfl) ?_)
 intro h hs
 obtain rfl := si H
 exact st 2 [] (k_retQ ⟨[.agg #[iv t27.1.Rows, iv t27.1.Cols, .slice a28 t27.1.Cells.length p29, iv (mx 0 t38), .bool t27.1.Locked, .bool t27.1.Insert], .nilIface], (.cons (.agg (by kernel_rfl) (by kernel_rfl) (by kernel_rfl) ((hs.bl d0).seg_ 0 6 (Nat.le_of_ble_eq_true rfl))) (.cons (.tmp (by kernel_rfl)) .nil)), I, _, ⟨a28, p29, t27.1.Cells.length, (.nilIface), rfl, rfl⟩, hs.pk (.c d2 (.f imEN .n))⟩)
def keys_set.m (x0 : api_Screen) (x1 : Int) : Option (api_Screen × GoErr) :=
  (letJ (α := Option (api_Screen × GoErr)) ((grid_Copy.m x0).bind fun t30 => (if x1 = 16 then (some ((⟨t30.Rows, t30.Cols, t30.Cells, t30.Cursor, false, (x1 == 15)⟩ : api_Screen), GoErr.nil)) else (some ((⟨t30.Rows, t30.Cols, t30.Cells, t30.Cursor, t30.Locked, (x1 == 15)⟩ : api_Screen), GoErr.nil)))) fun (j29 : Option (api_Screen × GoErr)) => (if x1 = 15 then (bif x0.Locked then (some (x0, (GoErr.no 7))) else j29) else j29))
theorem keys_set.calls {B I : Gh} {h : Heap} {x0 : api_Screen} {x1 : Int} {a21 : Option Addr} {p22 : Nat} {n23 : Nat} {r : (api_Screen × GoErr)} (H : keys_set.m x0 x1 = some r)  :
    Fc Tryz.prog 231 #[.agg #[iv x0.Rows, iv x0.Cols, .slice a21 n23 p22, iv x0.Cursor, .bool x0.Locked, .bool x0.Insert], iv x1] [rR t_api_Cell .i a21 p22 n23 x0.Cells] B I h (fun v L => ∃ a37 p38 n39 v41, v = .tuple #[.agg #[iv r.1.Rows, iv r.1.Cols, .slice a37 n39 p38, iv r.1.Cursor, .bool r.1.Locked, .bool r.1.Insert], v41] ∧ L = [rR t_api_Cell .i a37 p38 n39 r.1.Cells, rE .i v41 r.2]) := by
 refine fc_of fun E hs => ?_
 unfold keys_set.m at H
 cases hs.nR d0
 refine fn_of2 (rs := [.cell 4 56, .tmp 5]) (N := 24) Tryz.func231 rfl rfl rfl rfl ?_
 refine st 2 [] (k_op (nB hs [iv x0.Rows, iv x0.Cols, .slice a21 x0.Cells.length p22, iv x0.Cursor, .bool x0.Locked, .bool x0.Insert] ?_))
 intro b25 h hs
 refine k_op (nA hs [iv 0, iv 0, .slice none 0 0, iv 0, .bool false, .bool false] (.agg #[iv 0, iv 0, .slice none 0 0, iv 0, .bool false, .bool false]) ?_)
 intro b26 h hs
 refine st 3 [] ?_
 obtain ⟨j29, e36, H⟩ := letJ_some H
 refine k_joinT (fun T ρ h => ∃ I, j29 = some r ∧ Fits [(1, iv x1), (2, pv b25), (4, pv b26)] ρ ∧ St E T I h) hs tl0 ?_ ?_
 ·refine st 3 [] (k_ite H (fun c27 H => ?_) (fun c27 H => ?_))
  rotate_left
  ·exact st 7 [false] (k_end ⟨I, H, ft, hs⟩)
  refine st 2 [] (k_op (lB (hs.bl d1) 4 rfl ?_))
  refine k_spl H (fun c28 H => ?_) (fun c28 H => ?_)
  rotate_left
  ·exact st 4 [false] (k_end ⟨I, H, ft, hs⟩)
  refine st 5 [true] (k_op (lN (hs.bl d1) 0 6 ?_))
  refine st 1 [] (k_op (sN0 hs [iv x0.Rows, iv x0.Cols, .slice a21 x0.Cells.length p22, iv x0.Cursor, .bool x0.Locked, .bool x0.Insert] (ones_of rfl) ?_))
  intro h hs
  obtain rfl := si H
  exact st 2 [] (k_retQ (krJ ⟨[.agg #[iv x0.Rows, iv x0.Cols, .slice a21 x0.Cells.length p22, iv x0.Cursor, .bool x0.Locked, .bool x0.Insert], .iface 137 (iv 7)], (.cons (.agg (by kernel_rfl) (by kernel_rfl) (by kernel_rfl) ((hs.bl d0).seg_ 0 6 (Nat.le_of_ble_eq_true rfl))) (.cons (.tmp (by kernel_rfl)) .nil)), I, _, ⟨a21, p22, x0.Cells.length, (.iface 137 (iv 7)), rfl, rfl⟩, hs.pk (.c d2 (.f imEC .n))⟩))
 clear H
 rintro ρ h ⟨I, H, hf, hs⟩
 refine k_fits _ hf ?_ rfl
 subst e36
 try dsimp only at H
 refine st 2 [] (k_op (lN (hs.bl d1) 0 6 ?_))
 obtain ⟨hk, bk⟩ := hs.call tk0 (.c (qI d2) .n)
 refine k_call H (fun _ m => grid_Copy.calls m hk) ?_
 rintro t30 _ h H ⟨I, _, ⟨a31, p32, n33, rfl, rfl⟩, hk⟩
 replace hs := bk hk ct1 rfl
 cases hs.nO d0
 refine k_op (sN0 (hs.f d2) [iv t30.Rows, iv t30.Cols, .slice a31 t30.Cells.length p32, iv t30.Cursor, .bool t30.Locked, .bool t30.Insert] (ones_of rfl) ?_)
 intro h hs
 refine st 9 [] (k_ite H (fun c35 H => ?_) (fun c35 H => ?_))
 ·refine st 5 [true] (k_op (sB (v := .bool false) hs cw4 ?_))
  intro h hs
  refine st 7 [] (k_op (sB (v := .bool (x1 == 15)) hs cw5 ?_))
  intro h hs
  refine st 3 [] (k_op (lN (hs.bl d0) 0 6 ?_))
  refine k_op (sN0 (hs.f d2) [iv t30.Rows, iv t30.Cols, .slice a31 t30.Cells.length p32, iv t30.Cursor, .bool false, .bool (x1 == 15)] (ones_of rfl) ?_)
  intro h hs
  obtain rfl := si H
  obtain ⟨I, hs⟩ := (hs.f d2).fO
  exact st 2 [] (k_retQ ⟨[.agg #[iv t30.Rows, iv t30.Cols, .slice a31 t30.Cells.length p32, iv t30.Cursor, .bool false, .bool (x1 == 15)], .nilIface], (.cons (.agg (by kernel_rfl) (by kernel_rfl) (by kernel_rfl) ((hs.bl d1).seg_ 0 6 (Nat.le_of_ble_eq_true rfl))) (.cons (.tmp (by kernel_rfl)) .nil)), I, _, ⟨a31, p32, t30.Cells.length, (.nilIface), rfl, rfl⟩, hs.pk (.c d0 (.f imEN .n))⟩)
 refine st 10 [false] (k_op (sB (v := .bool (x1 == 15)) hs cw5 ?_))
 intro h hs
 refine st 3 [] (k_op (lN (hs.bl d0) 0 6 ?_))
 refine k_op (sN0 (hs.f d2) [iv t30.Rows, iv t30.Cols, .slice a31 t30.Cells.length p32, iv t30.Cursor, .bool t30.Locked, .bool (x1 == 15)] (ones_of rfl) ?_)
 intro h hs
 obtain rfl := si H
 obtain ⟨I, hs⟩ := (hs.f d2).fO
 exact st 2 [] (k_retQ ⟨[.agg #[iv t30.Rows, iv t30.Cols, .slice a31 t30.Cells.length p32, iv t30.Cursor, .bool t30.Locked, .bool (x1 == 15)], .nilIface], (.cons (.agg (by kernel_rfl) (by kernel_rfl) (by kernel_rfl) ((hs.bl d1).seg_ 0 6 (Nat.le_of_ble_eq_true rfl))) (.cons (.tmp (by kernel_rfl)) .nil)), I, _, ⟨a31, p32, t30.Cells.length, (.nilIface), rfl, rfl⟩, hs.pk (.c d0 (.f imEN .n))⟩)
def keys_plain.m (K : Nat) (x0 : api_Screen) (x1 : api_Key) : Option (api_Screen × GoErr) :=
  (letJ (α := Bool → Option (api_Screen × GoErr)) (fun (x29 : Bool) => (bif x29 then ((move_Do.m K x0 x1.Kind).bind fun t31 => (some (t31.1, t31.2))) else (letJ (α := Bool → Option (api_Screen × GoErr)) (fun (x39 : Bool) => (bif x39 then ((wipe_Do.m K x0 x1.Kind).bind fun t41 => (some (t41.1, t41.2))) else (letJ (α := Option (api_Screen × GoErr)) ((keys_set.m x0 x1.Kind).bind fun t64 => (some (t64.1, t64.2))) fun (j63 : Option (api_Screen × GoErr)) => (letJ (α := Int → Option (api_Screen × GoErr)) (fun (x53 : Int) => ((edit_Type.m K x0 x53).bind fun t55 => (some (t55.1, t55.2)))) fun (j54 : Int → Option (api_Screen × GoErr)) => (if x1.Kind = 11 then (j54 30) else (if x1.Kind = 1 then (j54 x1.Char) else (if x1.Kind = 10 then ((keys_dup.m K x0).bind fun t51 => (some (t51.1, t51.2))) else (if x1.Kind = 15 then j63 else (if x1.Kind = 16 then j63 else (some (x0, (GoErr.no 1)))))))))))) fun (j40 : Bool → Option (api_Screen × GoErr)) => ((wipe_Wipes.m x1.Kind).bind fun t38 => bif t38 then (j40 true) else (j40 false))))) fun (j30 : Bool → Option (api_Screen × GoErr)) => ((move_Moves.m x1.Kind).bind fun t28 => bif t28 then (j30 true) else (j30 false)))
theorem keys_plain.calls {B I : Gh} {h : Heap} {K : Nat} {x0 : api_Screen} {x1 : api_Key} {a21 : Option Addr} {p22 : Nat} {n23 : Nat} {r : (api_Screen × GoErr)} (H : keys_plain.m K x0 x1 = some r)  :
    Fc Tryz.prog 185 #[.agg #[iv x0.Rows, iv x0.Cols, .slice a21 n23 p22, iv x0.Cursor, .bool x0.Locked, .bool x0.Insert], .agg #[iv x1.Kind, .int .u8 x1.Char]] [rR t_api_Cell .i a21 p22 n23 x0.Cells] B I h (fun v L => ∃ a74 p75 n76 v78, v = .tuple #[.agg #[iv r.1.Rows, iv r.1.Cols, .slice a74 n76 p75, iv r.1.Cursor, .bool r.1.Locked, .bool r.1.Insert], v78] ∧ L = [rR t_api_Cell .i a74 p75 n76 r.1.Cells, rE .i v78 r.2]) := by
 refine fc_of fun E hs => ?_
 unfold keys_plain.m at H
 cases hs.nR d0
 refine fn_of2 (rs := [.cell 4 56, .tmp 5]) (N := 56) Tryz.func185 rfl rfl rfl rfl ?_
 refine st 2 [] (k_op (nB hs [iv x0.Rows, iv x0.Cols, .slice a21 x0.Cells.length p22, iv x0.Cursor, .bool x0.Locked, .bool x0.Insert] ?_))
 intro b25 h hs
 refine k_op (nB hs [iv x1.Kind, .int .u8 x1.Char] ?_)
 intro b26 h hs
 refine k_op (nA hs [iv 0, iv 0, .slice none 0 0, iv 0, .bool false, .bool false] (.agg #[iv 0, iv 0, .slice none 0 0, iv 0, .bool false, .bool false]) ?_)
 intro b27 h hs
 refine st 5 [] ?_
 obtain ⟨j30, e73, H⟩ := letJ_some H
 refine k_joinT (fun T ρ h => ∃ (x29 : Bool), ∃ I, j30 x29 = some r ∧ Fits [(2, pv b25), (3, pv b26), (4, pv b27), (6, .bool x29)] ρ ∧ St E T I h) hs tl0 ?_ ?_
 ·refine st 2 [] (k_op (lB (hs.bl d1) 0 rfl ?_))
  refine k_call H (fun _ m => move_Moves.calls m) ?_
  rintro t28 _ _ H ⟨rfl, rfl⟩
  cases t28
  ·rw [cond_false] at H
   exact st 2 [] (k_end ⟨false, I, H, ft, hs⟩)
  rw [cond_true] at H
  exact st 2 [] (k_end ⟨true, I, H, ft, hs⟩)
 clear H
 rintro ρ h ⟨x29, I, H, hf, hs⟩
 refine k_fits _ hf ?_ rfl
 subst e73
 try dsimp only at H
 cases x29
 rotate_left
 ·rw [cond_true] at H
  refine st 3 [true] (k_op (lN (hs.bl d2) 0 6 ?_))
  refine st 1 [] (k_op (lB (hs.bl d1) 0 rfl ?_))
  obtain ⟨hk, bk⟩ := hs.call tk0 (.c (qK d3) .n)
  refine k_call H (fun _ m => move_Do.calls m hk) ?_
  rintro t31 _ h H ⟨I, _, ⟨a32, p33, n34, v36, rfl, rfl⟩, hk⟩
  replace hs := bk hk ct2 rfl
  cases hs.nR d0
  refine st 2 [] (k_op (sN0 (hs.f d2) [iv t31.1.Rows, iv t31.1.Cols, .slice a32 t31.1.Cells.length p33, iv t31.1.Cursor, .bool t31.1.Locked, .bool t31.1.Insert] (ones_of rfl) ?_))
  intro h hs
  obtain rfl := si H
  exact st 2 [] (k_retQ ⟨[.agg #[iv t31.1.Rows, iv t31.1.Cols, .slice a32 t31.1.Cells.length p33, iv t31.1.Cursor, .bool t31.1.Locked, .bool t31.1.Insert], v36], (.cons (.agg (by kernel_rfl) (by kernel_rfl) (by kernel_rfl) ((hs.bl d0).seg_ 0 6 (Nat.le_of_ble_eq_true rfl))) (.cons (.tmp (by kernel_rfl)) .nil)), I, _, ⟨a32, p33, t31.1.Cells.length, (v36), rfl, rfl⟩, hs.pk (.c d1 (.c d1 .n))⟩)
 rw [cond_false] at H
 refine st 2 [false] ?_
 obtain ⟨j40, e72, H⟩ := letJ_some H
 refine k_joinT (fun T ρ h => ∃ (x39 : Bool), ∃ I, j40 x39 = some r ∧ Fits [(2, pv b25), (3, pv b26), (4, pv b27), (16, .bool x39)] ρ ∧ St E T I h) hs tl0 ?_ ?_
 ·refine st 2 [] (k_op (lB (hs.bl d1) 0 rfl ?_))
  refine k_call H (fun _ m => wipe_Wipes.calls m) ?_
  rintro t38 _ _ H ⟨rfl, rfl⟩
  cases t38
  ·rw [cond_false] at H
   exact st 2 [] (k_end ⟨false, I, H, ft, hs⟩)
  rw [cond_true] at H
  exact st 2 [] (k_end ⟨true, I, H, ft, hs⟩)
 clear H
 rintro ρ h ⟨x39, I, H, hf, hs⟩
 refine k_fits _ hf ?_ rfl
 subst e72
 try dsimp only at H
 cases x39
 rotate_left
 ·rw [cond_true] at H
  refine st 3 [true] (k_op (lN (hs.bl d2) 0 6 ?_))
  refine st 1 [] (k_op (lB (hs.bl d1) 0 rfl ?_))
  obtain ⟨hk, bk⟩ := hs.call tk0 (.c (qK d3) .n)
  refine k_call H (fun _ m => wipe_Do.calls m hk) ?_
  rintro t41 _ h H ⟨I, _, ⟨a42, p43, n44, v46, rfl, rfl⟩, hk⟩
  replace hs := bk hk ct2 rfl
  cases hs.nR d0
  refine st 2 [] (k_op (sN0 (hs.f d2) [iv t41.1.Rows, iv t41.1.Cols, .slice a42 t41.1.Cells.length p43, iv t41.1.Cursor, .bool t41.1.Locked, .bool t41.1.Insert] (ones_of rfl) ?_))
  intro h hs
  obtain rfl := si H
  exact st 2 [] (k_retQ ⟨[.agg #[iv t41.1.Rows, iv t41.1.Cols, .slice a42 t41.1.Cells.length p43, iv t41.1.Cursor, .bool t41.1.Locked, .bool t41.1.Insert], v46], (.cons (.agg (by kernel_rfl) (by kernel_rfl) (by kernel_rfl) ((hs.bl d0).seg_ 0 6 (Nat.le_of_ble_eq_true rfl))) (.cons (.tmp (by kernel_rfl)) .nil)), I, _, ⟨a42, p43, t41.1.Cells.length, (v46), rfl, rfl⟩, hs.pk (.c d1 (.c d1 .n))⟩)
 rw [cond_false] at H
 refine st 7 [false] (k_op (lB (hs.bl d1) 0 rfl ?_))
 refine st 3 [] ?_
 obtain ⟨j63, e71, H⟩ := letJ_some H
 refine k_joinT (fun T ρ h => ∃ I, j63 = some r ∧ Fits [(2, pv b25), (3, pv b26), (4, pv b27)] ρ ∧ St E T I h) hs tl0 ?_ ?_
 rotate_left
 ·clear H
  rintro ρ h ⟨I, H, hf, hs⟩
  refine k_fits _ hf ?_ rfl
  subst e71
  try dsimp only at H
  refine st 3 [] (k_op (lN (hs.bl d2) 0 6 ?_))
  refine st 1 [] (k_op (lB (hs.bl d1) 0 rfl ?_))
  obtain ⟨hk, bk⟩ := hs.call tk0 (.c (qK d3) .n)
  refine k_call H (fun _ m => keys_set.calls m hk) ?_
  rintro t64 _ h H ⟨I, _, ⟨a65, p66, n67, v69, rfl, rfl⟩, hk⟩
  replace hs := bk hk ct2 rfl
  cases hs.nR d0
  refine st 2 [] (k_op (sN0 (hs.f d2) [iv t64.1.Rows, iv t64.1.Cols, .slice a65 t64.1.Cells.length p66, iv t64.1.Cursor, .bool t64.1.Locked, .bool t64.1.Insert] (ones_of rfl) ?_))
  intro h hs
  obtain rfl := si H
  exact st 2 [] (k_retQ ⟨[.agg #[iv t64.1.Rows, iv t64.1.Cols, .slice a65 t64.1.Cells.length p66, iv t64.1.Cursor, .bool t64.1.Locked, .bool t64.1.Insert], v69], (.cons (.agg (by kernel_rfl) (by kernel_rfl) (by kernel_rfl) ((hs.bl d0).seg_ 0 6 (Nat.le_of_ble_eq_true rfl))) (.cons (.tmp (by kernel_rfl)) .nil)), I, _, ⟨a65, p66, t64.1.Cells.length, (v69), rfl, rfl⟩, hs.pk (.c d1 (.c d1 .n))⟩)
 refine st 4 [] ?_
 obtain ⟨j54, e62, H⟩ := letJ_some H
 refine k_joinT (fun T ρ h => ∃ (x53 : Int), ∃ I, j54 x53 = some r ∧ Fits [(2, pv b25), (3, pv b26), (4, pv b27)] ρ ∧ St E (rB b26 [iv x1.Kind, .int .u8 x53] 80 :: rB b27 [iv 0, iv 0, .slice none 0 0, iv 0, .bool false, .bool false] 56 :: T) I h) hs tl2 ?_ ?_
 rotate_left
 ·clear H
  rintro ρ h ⟨x53, I, H, hf, hs⟩
  refine k_fits _ hf ?_ rfl
  subst e62
  try dsimp only at H
  refine st 3 [] (k_op (lN (hs.bl d2) 0 6 ?_))
  refine st 1 [] (k_op (lB (hs.bl d0) 1 rfl ?_))
  obtain ⟨hk, bk⟩ := hs.call tk0 (.c (qK d3) .n)
  refine k_call H (fun _ m => edit_Type.calls m hk) ?_
  rintro t55 _ h H ⟨I, _, ⟨a56, p57, n58, v60, rfl, rfl⟩, hk⟩
  replace hs := bk hk ct2 rfl
  cases hs.nR d0
  refine st 2 [] (k_op (sN0 (hs.f d3) [iv t55.1.Rows, iv t55.1.Cols, .slice a56 t55.1.Cells.length p57, iv t55.1.Cursor, .bool t55.1.Locked, .bool t55.1.Insert] (ones_of rfl) ?_))
  intro h hs
  obtain rfl := si H
  exact st 2 [] (k_retQ (krJ ⟨[.agg #[iv t55.1.Rows, iv t55.1.Cols, .slice a56 t55.1.Cells.length p57, iv t55.1.Cursor, .bool t55.1.Locked, .bool t55.1.Insert], v60], (.cons (.agg (by kernel_rfl) (by kernel_rfl) (by kernel_rfl) ((hs.bl d0).seg_ 0 6 (Nat.le_of_ble_eq_true rfl))) (.cons (.tmp (by kernel_rfl)) .nil)), I, _, ⟨a56, p57, t55.1.Cells.length, (v60), rfl, rfl⟩, hs.pk (.c d1 (.c d1 .n))⟩))
 refine st 7 [] (k_ite H (fun c48 H => ?_) (fun c48 H => ?_))
 ·refine st 6 [true] (k_op (sB (v := .int .u8 30) (hs.f d1) cw1 ?_))
  intro h hs
  exact st 2 [] (k_end ⟨30, I, H, ft, hs.pk (.c d0 (.c d0 pk0))⟩)
 refine st 7 [false] (k_ite H (fun c49 H => ?_) (fun c49 H => ?_))
 ·exact st 4 [true] (k_end ⟨x1.Char, I, H, ft, hs.pk (.c d1 (.c d0 pk0))⟩)
 refine st 7 [false] (k_ite H (fun c50 H => ?_) (fun c50 H => ?_))
 ·refine st 3 [true] (k_out rfl ?_)
  refine xJ (q_in rfl ?_)
  refine st 3 [] (k_op (lN (hs.bl d2) 0 6 ?_))
  obtain ⟨hk, bk⟩ := hs.call tk0 (.c (qK d3) .n)
  refine k_call H (fun _ m => keys_dup.calls m hk) ?_
  rintro t51 _ h H ⟨I, _, ⟨a52, p53, n54, v56, rfl, rfl⟩, hk⟩
  replace hs := bk hk ct2 rfl
  cases hs.nR d0
  refine st 2 [] (k_op (sN0 (hs.f d2) [iv t51.1.Rows, iv t51.1.Cols, .slice a52 t51.1.Cells.length p53, iv t51.1.Cursor, .bool t51.1.Locked, .bool t51.1.Insert] (ones_of rfl) ?_))
  intro h hs
  obtain rfl := si H
  exact st 2 [] (k_retQ (krJ ⟨[.agg #[iv t51.1.Rows, iv t51.1.Cols, .slice a52 t51.1.Cells.length p53, iv t51.1.Cursor, .bool t51.1.Locked, .bool t51.1.Insert], v56], (.cons (.agg (by kernel_rfl) (by kernel_rfl) (by kernel_rfl) ((hs.bl d0).seg_ 0 6 (Nat.le_of_ble_eq_true rfl))) (.cons (.tmp (by kernel_rfl)) .nil)), I, _, ⟨a52, p53, t51.1.Cells.length, (v56), rfl, rfl⟩, hs.pk (.c d1 (.c d1 .n))⟩))
 refine st 7 [false] (k_ite H (fun c58 H => ?_) (fun c58 H => ?_))
 ·refine st 5 [true, true] (k_out rfl ?_)
  refine xJ (q_in rfl ?_)
  exact k_end ⟨I, H, ft, hs⟩
 refine st 4 [false] (k_ite H (fun c59 H => ?_) (fun c59 H => ?_))
 ·refine st 3 [true] (k_out rfl ?_)
  refine xJ (q_in rfl ?_)
  exact k_end ⟨I, H, ft, hs⟩
 refine st 4 [false] (k_out rfl ?_)
 refine xJ (q_out rfl ?_)
 refine xJ (q_in rfl ?_)
 refine st 2 [] (k_op (lN (hs.bl d2) 0 6 ?_))
 refine st 1 [] (k_op (sN0 hs [iv x0.Rows, iv x0.Cols, .slice a21 x0.Cells.length p22, iv x0.Cursor, .bool x0.Locked, .bool x0.Insert] (ones_of rfl) ?_))
 intro h hs
 obtain rfl := si H
 exact st 2 [] (k_retQ ⟨[.agg #[iv x0.Rows, iv x0.Cols, .slice a21 x0.Cells.length p22, iv x0.Cursor, .bool x0.Locked, .bool x0.Insert], .iface 137 (iv 1)], (.cons (.agg (by kernel_rfl) (by kernel_rfl) (by kernel_rfl) ((hs.bl d0).seg_ 0 6 (Nat.le_of_ble_eq_true rfl))) (.cons (.tmp (by kernel_rfl)) .nil)), I, _, ⟨a21, p22, x0.Cells.length, (.iface 137 (iv 1)), rfl, rfl⟩, hs.pk (.c d3 (.f imEC .n))⟩)
def keys_Do.m (K : Nat) (x0 : api_Screen) (x1 : api_Key) : Option (api_Screen × Bool × GoErr) :=
  (letJ (α := Bool → Option (api_Screen × Bool × GoErr)) (fun (x29 : Bool) => (bif x29 then ((keys_asks.m x0 x1.Char).bind fun t31 => (some (t31.1, t31.2.1, t31.2.2))) else ((keys_plain.m K x0 x1).bind fun t38 => (some (t38.1, false, t38.2))))) fun (j30 : Bool → Option (api_Screen × Bool × GoErr)) => (if x1.Kind = 17 then (j30 true) else (j30 false)))
theorem keys_Do.calls {B I : Gh} {h : Heap} {K : Nat} {x0 : api_Screen} {x1 : api_Key} {a21 : Option Addr} {p22 : Nat} {n23 : Nat} {r : (api_Screen × Bool × GoErr)} (H : keys_Do.m K x0 x1 = some r)  :
    Fc Tryz.prog 130 #[.agg #[iv x0.Rows, iv x0.Cols, .slice a21 n23 p22, iv x0.Cursor, .bool x0.Locked, .bool x0.Insert], .agg #[iv x1.Kind, .int .u8 x1.Char]] [rR t_api_Cell .i a21 p22 n23 x0.Cells] B I h (fun v L => ∃ a47 p48 n49 v51, v = .tuple #[.agg #[iv r.1.Rows, iv r.1.Cols, .slice a47 n49 p48, iv r.1.Cursor, .bool r.1.Locked, .bool r.1.Insert], .bool r.2.1, v51] ∧ L = [rR t_api_Cell .i a47 p48 n49 r.1.Cells, rE .i v51 r.2.2]) := by
 refine fc_of fun E hs => ?_
 unfold keys_Do.m at H
 cases hs.nR d0
 refine fn_of2 (rs := [.cell 4 56, .tmp 5, .tmp 6]) (N := 27) Tryz.func130 rfl rfl rfl rfl ?_
 refine st 2 [] (k_op (nB hs [iv x0.Rows, iv x0.Cols, .slice a21 x0.Cells.length p22, iv x0.Cursor, .bool x0.Locked, .bool x0.Insert] ?_))
 intro b25 h hs
 refine k_op (nB hs [iv x1.Kind, .int .u8 x1.Char] ?_)
 intro b26 h hs
 refine k_op (nA hs [iv 0, iv 0, .slice none 0 0, iv 0, .bool false, .bool false] (.agg #[iv 0, iv 0, .slice none 0 0, iv 0, .bool false, .bool false]) ?_)
 intro b27 h hs
 refine st 5 [] ?_
 obtain ⟨j30, e46, H⟩ := letJ_some H
 refine k_joinT (fun T ρ h => ∃ (x29 : Bool), ∃ I, j30 x29 = some r ∧ Fits [(2, pv b25), (3, pv b26), (4, pv b27), (11, .bool x29)] ρ ∧ St E T I h) hs tl0 ?_ ?_
 ·refine st 2 [] (k_op (lB (hs.bl d1) 0 rfl ?_))
  refine k_ite H (fun c28 H => ?_) (fun c28 H => ?_)
  ·exact st 1 [] (k_end ⟨true, I, H, ft, hs⟩)
  exact st 1 [] (k_end ⟨false, I, H, ft, hs⟩)
 clear H
 rintro ρ h ⟨x29, I, H, hf, hs⟩
 refine k_fits _ hf ?_ rfl
 subst e46
 try dsimp only at H
 cases x29
 rotate_left
 ·rw [cond_true] at H
  refine st 3 [true] (k_op (lN (hs.bl d2) 0 6 ?_))
  refine st 1 [] (k_op (lB (hs.bl d1) 1 rfl ?_))
  obtain ⟨hk, bk⟩ := hs.call tk0 (.c (qK d3) .n)
  refine k_call H (fun _ m => keys_asks.calls m hk) ?_
  rintro t31 _ h H ⟨I, _, ⟨a32, p33, n34, v36, rfl, rfl⟩, hk⟩
  replace hs := bk hk ct2 rfl
  cases hs.nR d0
  refine st 3 [] (k_op (sN0 (hs.f d2) [iv t31.1.Rows, iv t31.1.Cols, .slice a32 t31.1.Cells.length p33, iv t31.1.Cursor, .bool t31.1.Locked, .bool t31.1.Insert] (ones_of rfl) ?_))
  intro h hs
  obtain rfl := si H
  exact st 3 [] (k_retQ ⟨[.agg #[iv t31.1.Rows, iv t31.1.Cols, .slice a32 t31.1.Cells.length p33, iv t31.1.Cursor, .bool t31.1.Locked, .bool t31.1.Insert], .bool t31.2.1, v36], (.cons (.agg (by kernel_rfl) (by kernel_rfl) (by kernel_rfl) ((hs.bl d0).seg_ 0 6 (Nat.le_of_ble_eq_true rfl))) (.cons (.tmp (by kernel_rfl)) (.cons (.tmp (by kernel_rfl)) .nil))), I, _, ⟨a32, p33, t31.1.Cells.length, (v36), rfl, rfl⟩, hs.pk (.c d1 (.c d1 .n))⟩)
 rw [cond_false] at H
 refine st 4 [false] (k_op (lN (hs.bl d2) 0 6 ?_))
 refine k_op (lN (hs.bl d1) 0 2 ?_)
 obtain ⟨hk, bk⟩ := hs.call tk0 (.c (qK d3) .n)
 refine k_call H (fun _ m => keys_plain.calls m hk) ?_
 rintro t38 _ h H ⟨I, _, ⟨a39, p40, n41, v43, rfl, rfl⟩, hk⟩
 replace hs := bk hk ct2 rfl
 cases hs.nR d0
 refine st 3 [] (k_op (nA hs [iv 0, iv 0, .slice none 0 0, iv 0, .bool false, .bool false] (.agg #[iv 0, iv 0, .slice none 0 0, iv 0, .bool false, .bool false]) ?_))
 intro b45 h hs
 refine k_op (sN0 hs [iv t38.1.Rows, iv t38.1.Cols, .slice a39 t38.1.Cells.length p40, iv t38.1.Cursor, .bool t38.1.Locked, .bool t38.1.Insert] (ones_of rfl) ?_)
 intro h hs
 refine st 4 [] (k_op (lN (hs.bl d0) 0 6 ?_))
 refine st 1 [] (k_op (sN0 (hs.f d3) [iv t38.1.Rows, iv t38.1.Cols, .slice a39 t38.1.Cells.length p40, iv t38.1.Cursor, .bool t38.1.Locked, .bool t38.1.Insert] (ones_of rfl) ?_))
 intro h hs
 obtain rfl := si H
 exact st 3 [] (k_retQ ⟨[.agg #[iv t38.1.Rows, iv t38.1.Cols, .slice a39 t38.1.Cells.length p40, iv t38.1.Cursor, .bool t38.1.Locked, .bool t38.1.Insert], .bool false, v43], (.cons (.agg (by kernel_rfl) (by kernel_rfl) (by kernel_rfl) ((hs.bl d0).seg_ 0 6 (Nat.le_of_ble_eq_true rfl))) (.cons (.tmp (by kernel_rfl)) (.cons (.tmp (by kernel_rfl)) .nil))), I, _, ⟨a39, p40, t38.1.Cells.length, (v43), rfl, rfl⟩, hs.pk (.c d2 (.c d2 .n))⟩)
def field_Formatted_1.m (x0 : api_Cell) : Option Bool :=
  (some x0.Field)
theorem field_Formatted_1.calls {B I : Gh} {h : Heap} {x0 : api_Cell} {r : Bool} (H : field_Formatted_1.m x0 = some r)  :
    Fc Tryz.prog 295 #[.agg #[.bool x0.Field, .bool x0.Attr.Protected, .bool x0.Attr.Numeric, iv x0.Attr.Show, .bool x0.Attr.Modified, .int .u8 x0.Char]] [] B I h (fun v L => v = .bool r ∧ L = []) := by
 refine fc_of fun E hs => ?_
 unfold field_Formatted_1.m at H
 refine fn_of (rs := [.tmp 2]) (N := 5) Tryz.func295 rfl rfl rfl rfl ?_
 refine st 2 [] (k_op (nB hs [.bool x0.Field, .bool x0.Attr.Protected, .bool x0.Attr.Numeric, iv x0.Attr.Show, .bool x0.Attr.Modified, .int .u8 x0.Char] ?_))
 intro b21 h hs
 refine st 5 [] (k_op (lB (hs.bl d0) 0 rfl ?_))
 obtain rfl := si H
 exact st 2 [] (k_retQ ⟨_, by kernel_rfl, I, _, ⟨rfl, rfl⟩, hs.pk .n⟩)
end Go.Proofs.YtjkbhpokboolpaaGreatDoor.Sx
